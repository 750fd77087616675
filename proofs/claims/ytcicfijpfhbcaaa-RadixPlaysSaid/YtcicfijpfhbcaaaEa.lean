/-
  radix.each$1, radix.each.
-/
import Derived.Test.YtcicfijpfhbcaaaWi
namespace Go.Proofs.Ytcicfijpfhbcaaa
set_option linter.unusedSimpArgs false
set_option linter.unusedVariables false
set_option linter.unusedSectionVars false
open Go.RowKit

/-- Function f with these captured values takes indices one after the other. -/
structure Yld1 (f : FuncId) (caps : Array Value) (B : Nat) (cy : Int → Bool) (I : List Int → World → Prop) (fp : World → Nat → Prop) : Prop where
  enter : ∀ (args : Array Value) (w : World), (callFunc f args).run Try.prog w = .ok (.enter f args) w
  keep : ∀ (l : List Int) (w w' : World), I l w → Below w.heap.size w w' → I l w' ∧ ∀ b, fp w' b → fp w b
  fpin : ∀ (l : List Int) (w : World) (b : Nat), I l w → fp w b → B ≤ b ∧ b < w.heap.size
  call : ∀ (l : List Int) (w : World) (i : Int), 0 ≤ i → i < 1073741824 → I l w → (l.length : Int) ≤ i →
    Calls Try.prog f (#[.int .i64 i] ++ caps) w fun e w' => e = .returned (.bool (cy i)) ∧ I (l ++ [i]) w' ∧ Mod (fp w) w w' ∧ ∀ b, fp w' b → fp w b ∨ w.heap.size ≤ b

/-- The entry is to be taken: it has the tag, or none is asked for. -/
def selB (tag : Int) (p : Int × Int) : Bool := !(decide (0 ≤ tag) && (bits .and .i64 (p.2 / 2 ^ tag.toNat) 1 == 0))
def sel (tag : Int) (l : List (Int × Int)) : List Int := (l.filter (selB tag)).map Prod.fst
def cE (tag : Int) (cy : Int → Bool) (p : Int × Int) : Bool := !selB tag p || cy p.1
theorem sel_append (tag : Int) (a b : List (Int × Int)) : sel tag (a ++ b) = sel tag a ++ sel tag b := by simp [sel]
theorem sel_upTo (tag : Int) (cy : Int → Bool) : ∀ l : List (Int × Int), sel tag (upTo (cE tag cy) l) = upTo cy (sel tag l)
  | [] => rfl
  | p :: r => by
    have ih := sel_upTo tag cy r
    cases hs : selB tag p
    · have hc : cE tag cy p = true := by simp [cE, hs]
      have e1 : sel tag (p :: r) = sel tag r := by simp [sel, hs]
      rw [upTo, if_pos hc, e1, ← ih]
      simp [sel, hs]
    · have hc : cE tag cy p = cy p.1 := by simp [cE, hs]
      have e1 : ∀ q, sel tag (p :: q) = p.1 :: sel tag q := fun q => by simp [sel, hs]
      rw [upTo, hc, e1, upTo]
      cases cy p.1
      · simp only [Bool.false_eq_true, if_false]; rw [e1]; rfl
      · simp only [if_true]; rw [e1, ih]

/-- The state of each$1. -/
structure EachI (f : FuncId) (caps : Array Value) (tag : Int) (g4 g5 : Nat) (l0 : List Int) (I : List Int → World → Prop) (fp : World → Nat → Prop) (l : List (Int × Int)) (w : World) : Prop where
  inv : I (l0 ++ sel tag l) w
  c4 : w.cell? ⟨g4, 0, none⟩ = some (.int .i64 tag)
  c5 : w.cell? ⟨g5, 0, none⟩ = some (.func (.func f) #[] caps)
  n4 : ¬ fp w g4
  n5 : ¬ fp w g5

theorem cell_mod {G : Nat → Prop} {w w' : World} {g : Nat} {v : Value} (h : Mod G w w') (hc : w.cell? ⟨g, 0, none⟩ = some v) (hn : ¬ G g) : w'.cell? ⟨g, 0, none⟩ = some v := by
  rw [World.cell?_of_block (a := ⟨g, 0, none⟩) (h.block g (World.block_lt_of_cell? w _ hc) hn)]; exact hc

set_option maxRecDepth 100000 in
set_option maxHeartbeats 1000000 in
theorem p_each1 {f : FuncId} {caps : Array Value} {B : Nat} {cy : Int → Bool} {I : List Int → World → Prop} {fp : World → Nat → Prop} (hy : Yld1 f caps B cy I fp) (tag : Int) (ht0 : -1 ≤ tag) (ht1 : tag ≤ 1) (g4 g5 : Nat) (l0 : List Int) (hl0 : l0 = []) :
    Yld2 105 #[.pointer (some ⟨g4, 0, none⟩), .pointer (some ⟨g5, 0, none⟩)] B (cE tag cy) (EachI f caps tag g4 g5 l0 I fp) fp where
  enter args w := rfl
  keep l w w' h hb := by
    have hk := hy.keep _ _ _ h.inv hb
    exact ⟨⟨hk.1, below_keeps hb _ _ h.c4, below_keeps hb _ _ h.c5, fun e => h.n4 (hk.2 _ e), fun e => h.n5 (hk.2 _ e)⟩, hk.2⟩
  fpin l w b h hb := hy.fpin _ _ _ h.inv hb
  call l w i t i0 i1 t0 t1 h hll := by
    have HE := hy.enter
    have HC := Lib.hid (hy.call _ w i i0 i1 h.inv (by
      subst hl0
      rw [List.nil_append]
      have : (sel tag l).length ≤ l.length := by unfold sel; rw [List.length_map]; exact List.length_filter_le _ _
      omega))
    clear hll hl0
    have c4 := h.c4
    have c5 := h.c5
    have H := Lib.hid h
    have HY := Lib.hid hy
    have tcase : tag = -1 ∨ tag = 0 ∨ tag = 1 := by omega
    clear h hy
    have hlt : ∀ {g : Nat} {v : Value}, w.cell? ⟨g, 0, none⟩ = some v → g < w.heap.size := fun hc => World.block_lt_of_cell? w _ hc
    have H4 := Lib.hid (hlt c4)
    have H5 := Lib.hid (hlt c5)
    clear hlt
    cases hs : selB tag (i, t)
    · have hsl : sel tag (l ++ [(i, t)]) = sel tag l := by rw [sel_append]; simp [sel, hs]
      have hce : cE tag cy (i, t) = true := by simp [cE, hs]
      have HFIN : Hid (EachI f caps tag g4 g5 l0 I fp (l ++ [(i, t)]) w ∧ Mod (fp w) w w ∧ ∀ b, fp w b → fp w b ∨ w.heap.size ≤ b) :=
        ⟨⟨by rw [hsl]; exact H.out.inv, c4, c5, H.out.n4, H.out.n5⟩, Mod.refl _ _, fun _ h => .inl h⟩
      rw [hce]
      unfold selB at hs
      clear hsl hce
      rcases tcase with rfl | rfl | rfl
      · simp at hs
      · have hb : (bits .and .i64 t 1 == 0) = true := by simpa using hs
        clear hs
        go_enter Try.func105, Try.ntmps105
        go_wp2_with fail
        go_ret
        exact ⟨rfl, HFIN.out⟩
      · have hb : (bits .and .i64 (t / 2) 1 == 0) = true := by simpa using hs
        clear hs
        go_enter Try.func105, Try.ntmps105
        go_wp2_with fail
        go_ret
        exact ⟨rfl, HFIN.out⟩
    · have hsl : sel tag (l ++ [(i, t)]) = sel tag l ++ [i] := by rw [sel_append]; simp [sel, hs]
      have hce : cE tag cy (i, t) = cy i := by simp [cE, hs]
      have HFIN : Hid (∀ W : World, I (l0 ++ sel tag l ++ [i]) W → Mod (fp w) w W → (∀ b, fp W b → fp w b ∨ w.heap.size ≤ b) → EachI f caps tag g4 g5 l0 I fp (l ++ [(i, t)]) W) := fun W hI hm hf =>
        ⟨by rw [hsl, ← List.append_assoc]; exact hI, cell_mod hm c4 H.out.n4, cell_mod hm c5 H.out.n5, fun e => (hf _ e).elim H.out.n4 (fun e => by have := H4.out; omega), fun e => (hf _ e).elim H.out.n5 (fun e => by have := H5.out; omega)⟩
      rw [hce]
      unfold selB at hs
      clear hce hsl
      rcases tcase with rfl | rfl | rfl
      · clear hs
        go_enter Try.func105, Try.ntmps105
        go_wp2_with ((with_reducible refine HC.out.mono ?_); rintro e W ⟨rfl, hI', hm, hf⟩)
        go_ret
        exact ⟨rfl, HFIN.out W hI' hm hf, hm, hf⟩
      · have hb : (bits .and .i64 t 1 == 0) = false := by simpa using hs
        clear hs
        go_enter Try.func105, Try.ntmps105
        go_wp2_with ((with_reducible refine HC.out.mono ?_); rintro e W ⟨rfl, hI', hm, hf⟩)
        go_ret
        exact ⟨rfl, HFIN.out W hI' hm hf, hm, hf⟩
      · have hb : (bits .and .i64 (t / 2) 1 == 0) = false := by simpa using hs
        clear hs
        go_enter Try.func105, Try.ntmps105
        go_wp2_with ((with_reducible refine HC.out.mono ?_); rintro e W ⟨rfl, hI', hm, hf⟩)
        go_ret
        exact ⟨rfl, HFIN.out W hI' hm hf, hm, hf⟩

/-- The indices of the entries that have the tag. -/
def eachL (ht : Int) (x : RN) (tag : Int) : List Int := if checkP ht x ≠ 0 ∨ ht = 0 ∨ tag < -1 ∨ 1 < tag then [] else sel tag (ents (ht.toNat - 1) x 0)
def EachPost (cy : Int → Bool) (I : List Int → World → Prop) (fp : World → Nat → Prop) (l0 L : List Int) (w : World) (e : Ending) (w' : World) : Prop :=
  e = .returned (.tuple #[]) ∧ I (l0 ++ upTo cy L) w' ∧ Mod (fp w) w w' ∧ ∀ b, fp w' b → fp w b ∨ w.heap.size ≤ b

set_option maxRecDepth 100000 in
set_option maxHeartbeats 1000000 in
theorem p_each_no {f : FuncId} {caps : Array Value} {cy : Int → Bool} {I : List Int → World → Prop} {fp : World → Nat → Prop} (w0 : World) (hy : Yld1 f caps w0.heap.size cy I fp)
    (cs : Array Value) (ht : Int) (x : RN) (tag : Int) (l0 : List Int) (w : World) (hr : RdVals w0 cs 12 (encR ht x)) (hw : Below w0.heap.size w0 w) (hI : I l0 w) (hl0 : l0 = [])
    (hno : checkP ht x ≠ 0 ∨ ht = 0 ∨ tag < -1 ∨ 1 < tag) :
    Calls Try.prog 83 #[.agg cs, .int .i64 tag, .func (.func f) #[] caps] w (EachPost cy I fp l0 (eachL ht x tag) w) := by
  subst hl0
  have hl : eachL ht x tag = [] := by unfold eachL; rw [if_pos hno]
  rw [hl]
  obtain ⟨A, cap, rfl, hk⟩ := rdR_open hr
  have HRW := Lib.hid (hr.keep (below_keeps hw))
  have HI := Lib.hid hI
  have HY := Lib.hid hy
  have HF : Hid (∀ W, Below w.heap.size w W → EachPost cy I fp [] [] w (.returned (.tuple #[])) W) := fun W hb => by
    have hk := HY.out.keep _ _ _ HI.out hb
    exact ⟨rfl, by simpa [upTo] using hk.1, Mod.below_ (Mod.refl _ _) hb, fun b h => .inl (hk.2 b h)⟩
  clear hr hk hw hI hy hl
  have hce : checkP ht x = 0 ∨ checkP ht x ≠ 0 := by omega
  have hcase : checkP ht x ≠ 0 ∨ (checkP ht x = 0 ∧ (ht = 0 ∨ (ht ≠ 0 ∧ (tag < -1 ∨ -1 ≤ tag ∧ 1 < tag)))) := by omega
  clear hno hce
  rcases hcase with hc | ⟨hc, hz | ⟨hz, htg | ⟨htg, htg'⟩⟩⟩
  · have hcb : (checkP ht x != 0) = true := by simp [hc]
    clear hc
    go_enter Try.func83, Try.ntmps83
    go_wp2_with (go_at_call 19; refine (p_Check _ ht x _ ?_).mono ?_; exact HRW.out.keep (below_keeps (by (repeat' (first | (with_reducible exact Below.refl _ _) | (with_reducible assumption) | (with_reducible refine below_plus ?_ ?_ _) | (with_reducible refine Below.alloc ?_ ?_ _) | (with_reducible refine Below.drew ?_) | (with_reducible refine below_drewN ?_ _) | (with_reducible refine Below.setCell ?_ ?_ _) | (first | omega | (simp only [World.size_alloc, size_plus, World.size_drew, World.size_setCell] <;> omega) | (simp <;> omega)) | omega | (simp; omega))))); rintro e w' ⟨rfl, hb⟩; (first | (obtain ⟨X, rfl⟩ := plus_again hb) | (obtain ⟨X, rfl⟩ := plus_of_below hb)); clear hb)
    refine bodyPost_ret (results_none rfl _ _ _) rfl ?_
    exact HF.out _ (by (repeat' (first | (with_reducible exact Below.refl _ _) | (with_reducible assumption) | (with_reducible refine below_plus ?_ ?_ _) | (with_reducible refine Below.alloc ?_ ?_ _) | (with_reducible refine Below.drew ?_) | (with_reducible refine below_drewN ?_ _) | (with_reducible refine Below.setCell ?_ ?_ _) | (first | omega | (simp only [World.size_alloc, size_plus, World.size_drew, World.size_setCell] <;> omega) | (simp <;> omega)) | omega | (simp; omega))))
  · have hcb : (checkP ht x != 0) = false := by simp [hc]
    have hzb : (ht == 0) = true := by simp [hz]
    clear hc hz
    go_enter Try.func83, Try.ntmps83
    go_wp2_with (go_at_call 19; refine (p_Check _ ht x _ ?_).mono ?_; exact HRW.out.keep (below_keeps (by (repeat' (first | (with_reducible exact Below.refl _ _) | (with_reducible assumption) | (with_reducible refine below_plus ?_ ?_ _) | (with_reducible refine Below.alloc ?_ ?_ _) | (with_reducible refine Below.drew ?_) | (with_reducible refine below_drewN ?_ _) | (with_reducible refine Below.setCell ?_ ?_ _) | (first | omega | (simp only [World.size_alloc, size_plus, World.size_drew, World.size_setCell] <;> omega) | (simp <;> omega)) | omega | (simp; omega))))); rintro e w' ⟨rfl, hb⟩; (first | (obtain ⟨X, rfl⟩ := plus_again hb) | (obtain ⟨X, rfl⟩ := plus_of_below hb)); clear hb)
    refine bodyPost_ret (results_none rfl _ _ _) rfl ?_
    exact HF.out _ (by (repeat' (first | (with_reducible exact Below.refl _ _) | (with_reducible assumption) | (with_reducible refine below_plus ?_ ?_ _) | (with_reducible refine Below.alloc ?_ ?_ _) | (with_reducible refine Below.drew ?_) | (with_reducible refine below_drewN ?_ _) | (with_reducible refine Below.setCell ?_ ?_ _) | (first | omega | (simp only [World.size_alloc, size_plus, World.size_drew, World.size_setCell] <;> omega) | (simp <;> omega)) | omega | (simp; omega))))
  all_goals
    have hcb : (checkP ht x != 0) = false := by simp [hc]
    have hzb : (ht == 0) = false := by simp [hz]
    clear hc hz
    go_enter Try.func83, Try.ntmps83
    go_wp2_with (go_at_call 19; refine (p_Check _ ht x _ ?_).mono ?_; exact HRW.out.keep (below_keeps (by (repeat' (first | (with_reducible exact Below.refl _ _) | (with_reducible assumption) | (with_reducible refine below_plus ?_ ?_ _) | (with_reducible refine Below.alloc ?_ ?_ _) | (with_reducible refine Below.drew ?_) | (with_reducible refine below_drewN ?_ _) | (with_reducible refine Below.setCell ?_ ?_ _) | (first | omega | (simp only [World.size_alloc, size_plus, World.size_drew, World.size_setCell] <;> omega) | (simp <;> omega)) | omega | (simp; omega))))); rintro e w' ⟨rfl, hb⟩; (first | (obtain ⟨X, rfl⟩ := plus_again hb) | (obtain ⟨X, rfl⟩ := plus_of_below hb)); clear hb)
    refine bodyPost_ret (results_none rfl _ _ _) rfl ?_
    exact HF.out _ (by (repeat' (first | (with_reducible exact Below.refl _ _) | (with_reducible assumption) | (with_reducible refine below_plus ?_ ?_ _) | (with_reducible refine Below.alloc ?_ ?_ _) | (with_reducible refine Below.drew ?_) | (with_reducible refine below_drewN ?_ _) | (with_reducible refine Below.setCell ?_ ?_ _) | (first | omega | (simp only [World.size_alloc, size_plus, World.size_drew, World.size_setCell] <;> omega) | (simp <;> omega)) | omega | (simp; omega))))

set_option maxRecDepth 100000 in
set_option maxHeartbeats 1000000 in
theorem p_each_yes {f : FuncId} {caps : Array Value} {cy : Int → Bool} {I : List Int → World → Prop} {fp : World → Nat → Prop} (w0 : World) (hy : Yld1 f caps w0.heap.size cy I fp)
    (cs : Array Value) (m : Nat) (x : RN) (tag : Int) (l0 : List Int) (w : World) (hr : RdVals w0 cs 12 (encR ((m : Int) + 1) x)) (hw : Below w0.heap.size w0 w) (hI : I l0 w) (hl0 : l0 = [])
    (hc : checkP ((m : Int) + 1) x = 0) (hm : m ≤ 9) (hok : okN m x) (t0 : -1 ≤ tag) (t1 : tag ≤ 1) :
    Calls Try.prog 83 #[.agg cs, .int .i64 tag, .func (.func f) #[] caps] w (EachPost cy I fp l0 (eachL ((m : Int) + 1) x tag) w) := by
  subst hl0
  have hl : eachL ((m : Int) + 1) x tag = sel tag (ents m x 0) := by
    unfold eachL; rw [if_neg (by omega), show (((m : Int) + 1).toNat - 1) = m by omega]
  rw [hl]
  obtain ⟨A, cap, rfl, hk⟩ := rdR_open hr
  have HN := Lib.hid (rdN_shut hk)
  have HRW := Lib.hid (hr.keep (below_keeps hw))
  have HW := Lib.hid hw
  have HI := Lib.hid hI
  have HY := Lib.hid hy
  have HOK := Lib.hid hok
  have hcb : (checkP ((m : Int) + 1) x != 0) = false := by simp [hc]
  have hzb : ((m : Int) + 1 == 0) = false := by simp; omega
  have hm9 : (m : Int) ≤ 9 := by omega
  have hp8 : (0 : Int) + 8 ^ (m + 1) ≤ 1073741824 := by
    have h1 : (8 : Nat) ^ (m + 1) ≤ 8 ^ 10 := pow8_mono (by omega)
    have h9 : (8 : Nat) ^ 10 = 1073741824 := by decide
    rw [h9] at h1
    have h2 : ((8 ^ (m + 1) : Nat) : Int) ≤ 1073741824 := Int.ofNat_le.2 h1
    rw [Int.natCast_pow] at h2
    rw [Int.zero_add]; exact h2
  have HP8 := Lib.hid hp8
  clear hr hk hw hI hy hl hc hok hp8
  go_enter Try.func83, Try.ntmps83
  go_wp2_with (first
    | (go_at_call 19; refine (p_Check _ ((m : Int) + 1) x _ ?_).mono ?_; exact HRW.out.keep (below_keeps (by (repeat' (first | (with_reducible exact Below.refl _ _) | (with_reducible assumption) | (with_reducible refine below_plus ?_ ?_ _) | (with_reducible refine Below.alloc ?_ ?_ _) | (with_reducible refine Below.drew ?_) | (with_reducible refine below_drewN ?_ _) | (with_reducible refine Below.setCell ?_ ?_ _) | (first | omega | (simp only [World.size_alloc, size_plus, World.size_drew, World.size_setCell] <;> omega) | (simp <;> omega)) | omega | (simp; omega))))); rintro e w' ⟨rfl, hb⟩; (first | (obtain ⟨X, rfl⟩ := plus_again hb) | (obtain ⟨X, rfl⟩ := plus_of_below hb)); clear hb)
    | (go_at_call 104
       generalize hW1 : World.plus (World.alloc (World.alloc (World.alloc w _) _) _) _ = W1
       have hB := Boxes.start hW1
       clear hW1
       have hk := HY.out.keep _ _ _ HI.out hB.below
       have hf4 : ∀ g, w.heap.size ≤ g → ¬ fp W1 g := fun g hg hh => by have := (HY.out.fpin _ _ _ HI.out (hk.2 _ hh)).2; omega
       have hE : EachI f caps tag (w.heap.size + 1) (w.heap.size + 1 + 1) [] I fp [] W1 :=
         ⟨by simpa [sel] using hk.1, by rw [cell_of_row _ _ _ _ _ _ hB.b5]; rfl, by rw [cell_of_row _ _ _ _ _ _ hB.b6]; rfl, hf4 _ (by omega), hf4 _ (by omega)⟩
       refine (p_walk w0 (p_each1 HY.out tag t0 t1 (w.heap.size + 1) (w.heap.size + 1 + 1) [] rfl) m hm x _ 0 [] W1 HN.out (HW.out.trans (hB.below.mono HW.out.size)) hE HOK.out (by omega) HP8.out (by simp)).mono ?_
       rintro e W2 ⟨rfl, ht⟩))
  go_end0
  have hinv := ht.inv.inv
  simp only [List.nil_append] at hinv
  rw [sel_upTo] at hinv
  exact ⟨rfl, hinv, (Mod.below_ (Mod.refl (fp w) w) hB.below).trans ht.mod (fun i hi h => hk.2 i h), fun b hb => (ht.fps b hb).elim (fun h => .inl (hk.2 b h)) (fun h => .inr (Nat.le_trans hB.below.size h))⟩

theorem p_each {f : FuncId} {caps : Array Value} {cy : Int → Bool} {I : List Int → World → Prop} {fp : World → Nat → Prop} (w0 : World) (hy : Yld1 f caps w0.heap.size cy I fp)
    (cs : Array Value) (ht : Int) (x : RN) (tag : Int) (l0 : List Int) (w : World) (hr : RdVals w0 cs 12 (encR ht x)) (hw : Below w0.heap.size w0 w) (hI : I l0 w) (hl0 : l0 = []) :
    Calls Try.prog 83 #[.agg cs, .int .i64 tag, .func (.func f) #[] caps] w (EachPost cy I fp l0 (eachL ht x tag) w) := by
  by_cases hno : checkP ht x ≠ 0 ∨ ht = 0 ∨ tag < -1 ∨ 1 < tag
  · exact p_each_no w0 hy cs ht x tag l0 w hr hw hI hl0 hno
  · have hc : checkP ht x = 0 := by omega
    have hb := check_neg hc
    obtain ⟨m, rfl⟩ : ∃ m : Nat, ht = (m : Int) + 1 := ⟨(ht - 1).toNat, by omega⟩
    have hT : okT (m + 1) x := check_iff.1 (by rw [← hc]; rfl)
    have hok : okN m x := by
      rcases hT with h | h
      · omega
      · exact h.2.2.1
    exact p_each_yes w0 hy cs m x tag l0 w hr hw hI hl0 hc (by omega) hok (by omega) (by omega)
end Go.Proofs.Ytcicfijpfhbcaaa
