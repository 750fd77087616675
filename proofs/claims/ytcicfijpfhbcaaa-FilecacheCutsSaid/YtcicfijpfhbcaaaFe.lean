/-
  filecache.Frames.
-/
/-
  slices.Equal at lists of numbers.
-/
import Derived.Test.YtcicfijpfhbcaaaFs
import Derived.Deep.AppendLies
import Derived.Maps.AppendAt
namespace Go.Proofs.Ytcicfijpfhbcaaa
set_option linter.unusedSimpArgs false
set_option linter.unusedVariables false
set_option linter.unusedSectionVars false
open Go.RowKit Go.Shelf
attribute [local go_sem] Oper.semAt_some

theorem wpListIn_appendI {F : Fence} {n : Nat} {ops : Array Oper} {rest : List Oper} {o : Oper} {a : Act} {w : World} {Q : Exit → Act → World → Prop} (hg : o.guard = none) (s x : Operand) (hop : o.op = .call { callee := .builtin .append, args := #[s, x], argTypes := #[43, 43] })
    (base : Nat) (l : List Int) (v : Value) (hs : a.eval s = v) (hown : OwnI w base l v) (i : Int) (t : TypeId) (hx : a.eval x = .slice (some ⟨w.heap.size, 0, none⟩) 1 1)
    (hb : base ≤ w.heap.size) (hl : l.length ≤ 1073741824)
    (h : ∀ v' w', AppI (w.alloc (.cells #[.int .i64 i] t)) w' base (l ++ [i]) v v' → wpListIn F n Try.prog ops Q rest (a.put o.dst v') w') : wpListIn F n Try.prog ops Q (o :: rest) a (w.alloc (.cells #[.int .i64 i] t)) := by
  obtain ⟨i0, z0, hi0, hz0, hz1, hz2, hz3⟩ := info_partsI
  have hown' := hown.below (Below.alloc (Below.refl w.heap.size w) (Nat.le_refl _) (.cells #[.int .i64 i] t))
  refine wpListIn_plain hg fun K hK' => ?_
  obtain ⟨g, cap, w', hrun, h1, h2, h3, -⟩ := run_append_lies (P := Try.prog) _ 43 o.type base 3 i0 z0 1 8 Try.underlying43 hi0 hz0 hz1 hz2 hz3 (by omega) v l.length (flatI l) hown'
    ⟨w.heap.size, 0, none⟩ 1 1 [.int .i64 i] rfl (World.news_of_block (heap_alloc_new _ _)) (by simp [Value.oneCell']) (by omega) (by unfold maxLen; omega) (by omega) (by simp; omega) _ rfl
  have hap : AppI (w.alloc (.cells #[.int .i64 i] t)) w' base (l ++ [i]) v (.slice (some ⟨g, 0, none⟩) (l.length + 1) cap) := by
    refine ⟨?_, below_grown h2 (by simp; omega) hown'.base_, fun b hb hn => h2.block b hb fun e => hn e.symm, fun q hq => ?_, h2⟩
    · unfold OwnI flatI
      rw [List.length_append, List.map_append]
      exact h1
    · have : g = q := by simpa [Value.ownBlock] using hq
      subst this
      exact h3.imp id fun e => by omega
  unfold Oper.wpIn
  refine ⟨?_, ?_⟩
  · simp [Oper.about, hop, resolve, Target.leads, Sem.run_pure]
  · rw [Oper.semAt_plain F _ _ (by rw [hop]; intro c hc'; cases hc')]
    unfold execOp
    simp only [hop, resolve, invoke, builtin, Sem.run_bind, Sem.run_pure, Result.andThen_ok, List.map_toArray, List.map_cons, List.map_nil, hs, hx, hrun]
    exact hK' _ _ (h _ _ hap)

/-- What Frames answers. -/
def framesL (ht : Int) (x : RN) (l : List Int) : List Int := (l.filter fun i => decide (0 < getP ht x i)).map fun i => getP ht x i - 1
def framesP (ht : Int) (x : RN) : List Int := if fcP ht x ≠ 0 then [] else framesL ht x (eachL ht x (-1))
theorem frames_snoc (ht : Int) (x : RN) (l : List Int) (i : Int) : framesL ht x (l ++ [i]) = if 0 < getP ht x i then framesL ht x l ++ [getP ht x i - 1] else framesL ht x l := by
  unfold framesL
  rw [List.filter_append, List.map_append]
  by_cases h : 0 < getP ht x i
  · rw [if_pos h]; simp [h]
  · rw [if_neg h]; simp [h]
theorem frames_len (ht : Int) (x : RN) (l : List Int) : (framesL ht x l).length ≤ l.length := by unfold framesL; rw [List.length_map]; exact List.length_filter_le _ _

/-- A list in a box: the box, and the list's own block. -/
def fpL (n0 g : Nat) : World → Nat → Prop := fun W b => b = g ∨ (n0 ≤ b ∧ ∃ len cap, W.cell? ⟨g, 0, none⟩ = some (.slice (some ⟨b, 0, none⟩) len cap))
theorem fpL_ok {g n0 n1 : Nat} (h : n0 ≤ g) (h1 : g < n1) : FpOk (fpL n0 g) n0 n1 := by
  refine ⟨fun W b e => ?_, fun W W' hs b e => ?_⟩
  · rcases e with e | ⟨h2, -⟩
    · omega
    · exact h2
  · refine e.imp id fun ⟨h2, len, cap, hc⟩ => ⟨h2, len, cap, ?_⟩
    unfold World.cell? at hc ⊢
    rw [← hs g h1]; exact hc
/-- Where the list stands. -/
structure LBox (w0 : World) (g : Nat) (l : List Int) (W : World) : Prop where
  box : ∃ v, W.heap[g]? = some (.cells #[v] 43 (0, 0)) ∧ OwnI W (g + 1) l v
theorem LBox.fp {w0 W : World} {g n0 : Nat} {l : List Int} {v : Value} (hb : W.heap[g]? = some (.cells #[v] 43 (0, 0))) (ho : OwnI W (g + 1) l v) {b : Nat} (h : fpL n0 g W b) : b = g ∨ v.ownBlock = some b := by
  refine h.imp id fun ⟨_, len, cap, hc⟩ => ?_
  have h1 : W.cell? ⟨g, 0, none⟩ = some v := cell_of_row _ _ _ _ _ _ hb
  rw [h1] at hc; injection hc with hc; rw [hc]; rfl
theorem LBox.kept {w0 W W' : World} {g : Nat} {l : List Int} {row : Option Nat} (h : LBox w0 g l W) (hg : W.grownBy W' row) (hr : ∀ r, row = some r → ∃ o : Obj, W.heap[r]? = some o ∧ o.isCells = false) : LBox w0 g l W' := by
  obtain ⟨v, h1, h2⟩ := h.box
  refine ⟨v, heap_kept h1 hg hr, h2.1, ?_⟩
  rcases h2.2 with h3 | ⟨q, cap, cur, e1, e2, e3, e4⟩
  · exact .inl h3
  · exact .inr ⟨q, cap, cur, e1, e2, heap_kept e3 hg hr, e4⟩
theorem OwnI.kept {W W' : World} {base : Nat} {l : List Int} {v : Value} {row : Option Nat} (h : OwnI W base l v) (hg : W.grownBy W' row) (hr : ∀ r, row = some r → ∃ o : Obj, W.heap[r]? = some o ∧ o.isCells = false) : OwnI W' base l v := by
  refine ⟨h.1, ?_⟩
  rcases h.2 with h3 | ⟨q, cap, cur, e1, e2, e3, e4⟩
  · exact .inl h3
  · exact .inr ⟨q, cap, cur, e1, e2, heap_kept e3 hg hr, e4⟩
/-- One element is appended, the box is laid anew. -/
theorem LBox.app {w0 W W1 : World} {g n0 : Nat} {l : List Int} {v v' : Value} {i : Int} {t : TypeId} (hb : W.heap[g]? = some (.cells #[v] 43 (0, 0))) (ho : OwnI W (g + 1) l v) (hn : n0 ≤ g) (ha : AppI (W.alloc (.cells #[.int .i64 i] t)) W1 (g + 1) (l ++ [i]) v v') :
    LBox w0 g (l ++ [i]) (W1.setCell ⟨g, 0, none⟩ v') ∧ KeepF (fpL n0 g) n0 W (W1.setCell ⟨g, 0, none⟩ v') ∧ (∀ B, KeepsFrom B W (W1.setCell ⟨g, 0, none⟩ v')) ∧ ∀ k, k < W.heap.size → k ≠ g → v.ownBlock ≠ some k → (W1.setCell ⟨g, 0, none⟩ v').heap[k]? = W.heap[k]? := by
  have hgl := lt_of_heap hb
  have hW1g : W1.heap[g]? = some (.cells #[v] 43 (0, 0)) := (ha.far g (by simp; omega) fun e => by have := ho.base_ g e; omega).trans ((Below.heap_alloc _ _ _ hgl).trans hb)
  have hset : ∀ q, q ≠ g → (W1.setCell ⟨g, 0, none⟩ v').heap[q]? = W1.heap[q]? := fun q hq => heap_setCell_other W1 _ q _ hq
  have hfar : ∀ k, k < W.heap.size → k ≠ g → v.ownBlock ≠ some k → (W1.setCell ⟨g, 0, none⟩ v').heap[k]? = W.heap[k]? := fun k hk hne hn => (hset k hne).trans ((ha.far k (by simp; omega) hn).trans (Below.heap_alloc _ _ _ hk))
  have hbox : (W1.setCell ⟨g, 0, none⟩ v').heap[g]? = some (.cells #[v'] 43 (0, 0)) := heap_set_one hW1g _
  have hown : OwnI (W1.setCell ⟨g, 0, none⟩ v') (g + 1) (l ++ [i]) v' := ha.own.keep fun q hq _ => hset q (by have := ha.own.base_ q hq; omega)
  have hsz : W.heap.size ≤ (W1.setCell ⟨g, 0, none⟩ v').heap.size := by have := ha.below.size; simp at this ⊢; omega
  have hlies : ∀ b, fpL n0 g (W1.setCell ⟨g, 0, none⟩ v') b → fpL n0 g W b ∨ W.heap.size ≤ b := fun b h => by
    rcases LBox.fp (w0 := w0) hbox hown h with e | e
    · exact .inl (.inl e)
    · rcases ha.lies b e with e2 | e2
      · obtain ⟨A, cap, hv, -, -⟩ := ho.slice
        have h3 := ho.base_ b e2
        refine .inl (.inr ⟨by omega, ?_⟩)
        rw [hv] at e2 hb
        rcases A with _ | ad
        · cases e2
        · have : ad.block = b := by simpa [Value.ownBlock] using e2
          rcases ho.2 with ⟨h4, -⟩ | ⟨q, cap2, cur, h4, -⟩
          · rw [hv] at h4; cases h4
          · rw [hv] at h4
            injection h4 with h5 h6 h7
            injection h5 with h5
            subst h5
            subst this
            exact ⟨_, _, cell_of_row _ _ 0 _ _ _ hb⟩
      · simp at e2; exact .inr (by omega)
  refine ⟨⟨v', hbox, hown⟩, ⟨⟨ha.below.os, ha.below.tape, ha.below.output, hsz, fun k hk => ?_⟩, fun k cs t fr hk hn => ?_, hlies, fun hl b hbf => ?_⟩, fun B => ⟨hsz, fun k o hk he hc => (hfar k (lt_of_heap he) (fun e => ?_) fun e => ?_).trans he⟩, hfar⟩
  · exact hfar k (by omega) (by omega) (fun e => by have := ho.base_ k e; omega)
  · refine hfar k (lt_of_heap hk) (fun e => hn (.inl e)) fun e => hn ?_
    obtain ⟨A, cap, hv, -, -⟩ := ho.slice
    have h3 := ho.base_ k e
    refine .inr ⟨by omega, ?_⟩
    rcases ho.2 with ⟨h4, -⟩ | ⟨q, cap2, cur, h4, -⟩
    · rw [h4] at e; cases e
    · rw [h4] at e hb
      have : q = k := by simpa [Value.ownBlock] using e
      subst this
      exact ⟨_, _, cell_of_row _ _ 0 _ _ _ hb⟩
  · rcases LBox.fp (w0 := w0) hbox hown hbf with e | e
    · rw [e]; exact Nat.lt_of_lt_of_le hgl hsz
    · exact hown.lt b e
  · subst e; rw [hb] at he; injection he with he; subst he; cases hc
  · rcases ho.2 with ⟨h4, -⟩ | ⟨q, cap2, cur, h4, h5, h6, -⟩
    · rw [h4] at e; cases e
    · rw [h4] at e
      have : q = k := by simpa [Value.ownBlock] using e
      subst this
      rw [h6] at he; injection he with he; subst he; cases hc
/-- The tree's box, and what lay ahead. -/
structure BxW (w0 : World) (row : Array Value) (W : World) : Prop where
  box : W.heap[w0.heap.size]? = some (.cells row 28 (0, 0))
  below : Below w0.heap.size w0 W
theorem BxW.go {w0 W W' : World} {row : Array Value} (h : BxW w0 row W) (hb : Below W.heap.size W W') : BxW w0 row W' := ⟨(hb.block _ (lt_of_heap h.box)).trans h.box, h.below.trans (hb.mono h.below.size)⟩
theorem BxW.own {β : Type} {w0 : World} {row : Array Value} {B g : Nat} (hB : w0.heap.size ≤ B) (f : β → List Int) : OwnFrom B (fun (s : β) W => LBox w0 g (f s) W ∧ BxW w0 row W) := fun s W W' rw hs hg hr =>
  ⟨hs.1.kept hg fun r e => (hr r e).2, ⟨heap_kept hs.2.box hg fun r e => (hr r e).2, hs.2.below.grown hg hs.2.below.size fun k e => Nat.le_trans hB (hr k e).1⟩⟩
def idxV {ht : Int} {x : RN} (l : List (Ix ht x)) : List Int := l.map fun i => i.1
theorem idxV_snoc {ht : Int} {x : RN} (l : List (Ix ht x)) (i : Ix ht x) : idxV (l ++ [i]) = idxV l ++ [i.1] := by simp [idxV]
theorem idxV_len {ht : Int} {x : RN} (l : List (Ix ht x)) : (idxV l).length = l.length := by simp [idxV]

set_option maxRecDepth 100000 in
set_option maxHeartbeats 1000000 in
theorem c_Frames (cs : Array Value) (ht : Int) (x : RN) (w : World) (hr : RdVals w cs 12 (encR ht x)) (hv : vOk ht x) :
    Calls Try.prog 50 #[.agg cs] w fun e w' => ∃ v, e = .returned v ∧ OwnI w' w.heap.size (framesP ht x) v ∧ Below w.heap.size w w' := by
  obtain ⟨A, cap, rfl, hk⟩ := rdR_open hr
  have HR := Lib.hid hr
  have HV := Lib.hid hv
  clear hr hk hv
  by_cases hc : fcP ht x ≠ 0
  · have hf : Hid (framesP ht x = []) := if_pos hc
    have hcb : (fcP ht x != 0) = true := by simp [hc]
    clear hc
    go_enter Try.func50, Try.ntmps50
    go_wp2_with (go_at_call 41; refine (c_Check _ ht x _ ?_ HV.out).mono ?_; exact HR.out.keep (below_keeps (by (repeat' (first | (with_reducible exact Below.refl _ _) | (with_reducible assumption) | (with_reducible refine below_plus ?_ ?_ _) | (with_reducible refine Below.alloc ?_ ?_ _) | (with_reducible refine Below.drew ?_) | (with_reducible refine below_drewN ?_ _) | (with_reducible refine Below.setCell ?_ ?_ _) | (first | omega | (simp only [World.size_alloc, size_plus, World.size_drew, World.size_setCell] <;> omega) | (simp <;> omega)) | omega | (simp; omega))))); rintro e w' ⟨rfl, hb⟩; (first | (obtain ⟨X, rfl⟩ := plus_again hb) | (obtain ⟨X, rfl⟩ := plus_of_below hb)); clear hb)
    go_ret
    exact ⟨_, rfl, by rw [hf.out]; exact OwnI.nil _ _, by (repeat' (first | (with_reducible exact Below.refl _ _) | (with_reducible assumption) | (with_reducible refine below_plus ?_ ?_ _) | (with_reducible refine Below.alloc ?_ ?_ _) | (with_reducible refine Below.drew ?_) | (with_reducible refine below_drewN ?_ _) | (with_reducible refine Below.setCell ?_ ?_ _) | (first | omega | (simp only [World.size_alloc, size_plus, World.size_drew, World.size_setCell] <;> omega) | (simp <;> omega)) | omega | (simp; omega)))⟩
  · have hcb : (fcP ht x != 0) = false := by simpa using hc
    have hf : Hid (framesP ht x = framesL ht x (eachL ht x (-1))) := if_neg hc
    clear hc
    refine (callsIn_wide (n := 3)).1 ?_
    refine callsIn_of_wp_marks Try.func50 rfl trivial ?_ rfl
    simp only [Try.ntmps50, List.size_toArray, List.length_cons, List.length_nil, Nat.reduceAdd, Nat.reduceSub, Array.replicate_succ, Array.replicate_zero, List.push_toArray, List.append_toArray, List.nil_append, List.cons_append]
    have h3 : (1 : Nat) ≤ 3 := by omega
    gi_wp2_with (first
      | (refine ⟨trivial, ?_⟩; gi_at_call 41; refine (callsIn_wide.2 (c_Check _ ht x _ ?_ HV.out)).mono ?_; exact HR.out.keep (below_keeps (by (repeat' (first | (with_reducible exact Below.refl _ _) | (with_reducible assumption) | (with_reducible refine below_plus ?_ ?_ _) | (with_reducible refine Below.alloc ?_ ?_ _) | (with_reducible refine Below.drew ?_) | (with_reducible refine below_drewN ?_ _) | (with_reducible refine Below.setCell ?_ ?_ _) | (first | omega | (simp only [World.size_alloc, size_plus, World.size_drew, World.size_setCell] <;> omega) | (simp <;> omega)) | omega | (simp; omega))))); rintro e V1 ⟨rfl, hb⟩; (have hv1 : BxW w (cellsR ht x (.slice A x.n cap)) V1 := ⟨(hb.block _ (by (first | omega | (simp only [World.size_alloc, size_plus, World.size_drew, World.size_setCell] <;> omega) | (simp <;> omega)))).trans (by (repeat' (first | (refine heap_alloc_here _ _ _ ?_; (first | omega | (simp only [World.size_alloc, size_plus, World.size_drew, World.size_setCell] <;> omega) | (simp <;> omega))) | (refine (heap_alloc_old _ _ _ ?_).trans ?_; (first | omega | (simp only [World.size_alloc, size_plus, World.size_drew, World.size_setCell] <;> omega) | (simp <;> omega))) | (refine (heap_plus _ _ _ ?_).trans ?_; (first | omega | (simp only [World.size_alloc, size_plus, World.size_drew, World.size_setCell] <;> omega) | (simp <;> omega))) | rfl))), (by (repeat' (first | (with_reducible exact Below.refl _ _) | (with_reducible assumption) | (with_reducible refine below_plus ?_ ?_ _) | (with_reducible refine Below.alloc ?_ ?_ _) | (with_reducible refine Below.drew ?_) | (with_reducible refine below_drewN ?_ _) | (with_reducible refine Below.setCell ?_ ?_ _) | (first | omega | (simp only [World.size_alloc, size_plus, World.size_drew, World.size_setCell] <;> omega) | (simp <;> omega)) | omega | (simp; omega))) : Below w.heap.size w _).trans (hb.mono (by (first | omega | (simp only [World.size_alloc, size_plus, World.size_drew, World.size_setCell] <;> omega) | (simp <;> omega))))⟩); have d12 := row12 hv1.box; have hlB := lt_of_heap hv1.box; have HV1 := Lib.hid hv1; clear hb hv1)
      | (refine ⟨trivial, ?_⟩; gi_at_call 90; refine (callsIn_wide.2 (c_entries _ rfl _)).mono ?_; rintro e w' ⟨rfl, rfl⟩))
    clear d12
    generalize hW1 : World.alloc (World.alloc V1 _) _ = W1
    have hz1 : W1.heap.size = V1.heap.size + 2 := by rw [← hW1]; simp
    have hB1 : Below V1.heap.size V1 W1 := by rw [← hW1]; exact (below_alloc _ _).alloc (by simp) _
    have hl1 : W1.heap[V1.heap.size]? = some (.cells #[.slice none 0 0] 43 (0, 0)) := by rw [← hW1]; (repeat' (first | (refine heap_alloc_here _ _ _ ?_; (first | omega | (simp only [World.size_alloc, size_plus, World.size_drew, World.size_setCell] <;> omega) | (simp <;> omega))) | (refine (heap_alloc_old _ _ _ ?_).trans ?_; (first | omega | (simp only [World.size_alloc, size_plus, World.size_drew, World.size_setCell] <;> omega) | (simp <;> omega))) | (refine (heap_plus _ _ _ ?_).trans ?_; (first | omega | (simp only [World.size_alloc, size_plus, World.size_drew, World.size_setCell] <;> omega) | (simp <;> omega))) | rfl))
    have hb1 : W1.heap[V1.heap.size + 1]? = some (.cells (cellsR ht x (.slice A x.n cap)) 28 (0, 0)) := by rw [← hW1]; (repeat' (first | (refine heap_alloc_here _ _ _ ?_; (first | omega | (simp only [World.size_alloc, size_plus, World.size_drew, World.size_setCell] <;> omega) | (simp <;> omega))) | (refine (heap_alloc_old _ _ _ ?_).trans ?_; (first | omega | (simp only [World.size_alloc, size_plus, World.size_drew, World.size_setCell] <;> omega) | (simp <;> omega))) | (refine (heap_plus _ _ _ ?_).trans ?_; (first | omega | (simp only [World.size_alloc, size_plus, World.size_drew, World.size_setCell] <;> omega) | (simp <;> omega))) | rfl))
    have hck1 := HV1.out.go hB1
    have hlb1 : LBox w V1.heap.size [] W1 := ⟨_, hl1, OwnI.nil _ _⟩
    have hfp : FpOk (fpL w.heap.size V1.heap.size) w.heap.size (V1.heap.size + 1) := fpL_ok (by omega) (by omega)
    clear hW1
    apply wpIn_rangeFunc_ownG rfl (by omega) (gf := 107) (lb := #[.pointer (some ⟨V1.heap.size + 1, 0, none⟩)]) rfl trivial (enters_of Try.func107 (by kernel_rfl) rfl)
      (ents_stops A cap ht x w W1 (fpL w.heap.size V1.heap.size) (V1.heap.size + 1) _ HR.out hck1.below hb1 ?fpB hfp ?fpLt (by omega) _ (by omega)) KeepF.trans (fun V l o o' hl h hc _ => KeepF.put hfp (by omega) V l o o' (by omega) h hc) (Below.refl _ _) (fun _ => rfl)
      (fun pre W => LBox w V1.heap.size (framesL ht x (idxV pre)) W ∧ BxW w (cellsR ht x (.slice A x.n cap)) W)
      (fun c pre W => False)
      (BxW.own (by omega) _) (fun c s V V' rw hs _ _ => hs) ⟨hlb1, hck1⟩ _
    case fpB =>
      intro h
      rcases LBox.fp (w0 := w) hl1 (OwnI.nil _ _) h with e | e
      · omega
      · cases e
    case fpLt =>
      intro b h
      rcases LBox.fp (w0 := w) hl1 (OwnI.nil _ _) h with e | e
      · omega
      · cases e
    case hassign =>
      intro l i W K hK
      dsimp only [ixV]
      gi_wp2
      exact hK
    case hbody =>
      rintro l pre i W ⟨⟨v0, hb0, ho⟩, hbx⟩ hlen
      have hsn := idxV_snoc pre i
      have hfs := frames_snoc ht x (idxV pre) i.1
      have hvb := HV.out i.1
      by_cases h0 : 0 < getP ht x i.1
      · have hnew : Hid (framesL ht x (idxV (pre ++ [i])) = framesL ht x (idxV pre) ++ [getP ht x i.1 - 1]) := by rw [Hid, hsn, hfs, if_pos h0]
        have hll : (framesL ht x (idxV pre)).length ≤ 1073741824 := by
          have := frames_len ht x (idxV pre)
          have := len_each ht x
          rw [idxV_len] at *
          omega
        obtain ⟨A0, cap0, rfl, -, -⟩ := ho.slice
        have rc : W.cell? ⟨V1.heap.size, 0, none⟩ = some (.slice A0 (framesL ht x (idxV pre)).length cap0) := cell_of_row _ _ _ _ _ _ hb0
        have hgl := lt_of_heap hb0
        have hgl' : V1.heap.size + 1 ≤ W.heap.size := hgl
        have HO := Lib.hid ho
        have HB0 := Lib.hid hb0
        have HBX := Lib.hid hbx
        clear ho hb0 hbx hsn hfs hck1 hlb1 hB1 hl1 hb1
        generalize framesL ht x (idxV pre) = lf at *
        generalize getP ht x i.1 = v at *
        gi_wp2_with (gi_at_builtin; (with_reducible refine wpListIn_appendI ?_ (.tmp 15) (.tmp 18) ?_ (V1.heap.size + 1) lf _ ?_ HO.out (v - 1) _ ?_ hgl' hll ?_); rfl; (with_reducible rfl); rfl; rfl; (intro v2 W2 ha); (obtain ⟨A2, cap2, rfl, -, -⟩ := ha.own.slice); (have hg2 : W2.heap[V1.heap.size]? = _ := (ha.far V1.heap.size (by simp; omega) fun e => by have := HO.out.base_ _ e; omega).trans ((Below.heap_alloc _ _ _ hgl).trans HB0.out)); (have rc2 : W2.cell? ⟨V1.heap.size, 0, none⟩ = _ := cell_of_row _ _ 0 _ _ _ hg2); (have rf2 : W2.frozen? ⟨V1.heap.size, 0, none⟩ = false := frozen_of_row _ _ _ _ _ hg2); have HA := Lib.hid ha; clear ha hg2)
        obtain ⟨k1, k2, k3, k4⟩ := LBox.app (w0 := w) (n0 := w.heap.size) HB0.out HO.out (by omega) HA.out
        rw [show (lf ++ [v - 1]).length = lf.length + 1 by simp] at k1 k2 k3 k4
        exact ⟨k3 _, k2, by rw [hnew.out]; exact k1, ⟨(k4 _ (by omega) (by omega) (fun e => by have := HO.out.base_ _ e; omega)).trans HBX.out.box, HBX.out.below.trans k2.below⟩⟩
      · have hnew : Hid (framesL ht x (idxV (pre ++ [i])) = framesL ht x (idxV pre)) := by rw [Hid, hsn, hfs, if_neg h0]
        have HLB : Hid (LBox w V1.heap.size (framesL ht x (idxV pre)) W) := ⟨v0, hb0, ho⟩
        have HBX := Lib.hid hbx
        clear ho hb0 hbx hsn hfs
        gi_wp2
        exact ⟨KeepsFrom.refl _ _, KeepF.refl _ _ _, by rw [hnew.out]; exact HLB.out, HBX.out⟩
    case hdone =>
      rintro D ys W hD hys ⟨⟨v0, hb0, ho⟩, hbx⟩ hK
      have hys' : idxV ys = eachL ht x (-1) := hys
      rw [hys', ← hf.out] at ho
      obtain ⟨A0, cap0, rfl, -, -⟩ := ho.slice
      have rc : W.cell? ⟨V1.heap.size, 0, none⟩ = some (.slice A0 (framesP ht x).length cap0) := cell_of_row _ _ _ _ _ _ hb0
      have hgl := lt_of_heap hb0
      have HO := Lib.hid ho
      have HBX := Lib.hid hbx
      have HK := Lib.hid hK
      clear ho hb0 hbx hys hys' hK hf
      have hle : w.heap.size ≤ V1.heap.size + 1 := by omega
      have hleD : w.heap.size ≤ D := by omega
      gi_wp2
      refine ⟨by simp, .inl ⟨_, _, rfl, run_takeDeferred HK.out, ?_⟩⟩
      exact ⟨_, results_tmp rfl _ _ _, _, rfl, OwnI.mono (base' := w.heap.size) (HO.out.kept (grownBy_putObj' _ D _) (fun r e => by cases e; exact ⟨_, HK.out, rfl⟩)) hle, HBX.out.below.trans (belowK_b (w := w) (Nat.le_refl _) W D _ _ hleD HK.out rfl rfl)⟩
    case hstop =>
      rintro D c pre W hD hpre hf hK
      exact hf.elim
end Go.Proofs.Ytcicfijpfhbcaaa
namespace Go.Proofs.Ytcicfijpfhbcaaa
set_option linter.unusedSimpArgs false
set_option linter.unusedVariables false
set_option linter.unusedSectionVars false
open Go.RowKit

/-- A list of numbers that can be read. -/
def RdI (w : World) (l : List Int) (v : Value) : Prop := ∃ A cap, v = .slice A l.length cap ∧ l.length ≤ 1073741824 ∧ ∀ j i, l[j]? = some i → ∃ g, A = some ⟨g, 0, none⟩ ∧ g < w.heap.size ∧ w.cell? ⟨g, j, none⟩ = some (.int .i64 i)
theorem OwnI.rdI {w : World} {base : Nat} {l : List Int} {v : Value} (h : OwnI w base l v) (hl : l.length ≤ 1073741824) : RdI w l v := by
  obtain ⟨A, cap, rfl, -, -⟩ := h.slice
  refine ⟨A, cap, rfl, hl, fun j i hj => ?_⟩
  obtain ⟨g, cap', hs, -, hg, hc⟩ := h.at hj
  injection hs with e1 e2 e3
  exact ⟨g, e1, hg, hc⟩
theorem RdI.below {w w' : World} {l : List Int} {v : Value} (h : RdI w l v) (hb : Below w.heap.size w w') : RdI w' l v := by
  obtain ⟨A, cap, rfl, hl, hc⟩ := h
  refine ⟨A, cap, rfl, hl, fun j i hj => ?_⟩
  obtain ⟨g, e, hg, h1⟩ := hc j i hj
  exact ⟨g, e, Nat.lt_of_lt_of_le hg hb.size, below_keeps hb _ _ h1⟩
theorem take_step {a b : List Int} {k : Nat} {x y : Int} (ha : a[k]? = some x) (hb : b[k]? = some y) (h : a.take k = b.take k) : (a.take (k + 1) = b.take (k + 1)) ↔ x = y := by
  rw [List.take_add_one, List.take_add_one, ha, hb, h]
  simp

set_option maxRecDepth 100000 in
set_option maxHeartbeats 1000000 in
theorem q_Equal (a b : List Int) (va vb : Value) (w : World) (ha : RdI w a va) (hb : RdI w b vb) :
    Calls Try.prog 49 #[va, vb] w fun e w' => e = .returned (.bool (decide (a = b))) ∧ Below w.heap.size w w' := by
  obtain ⟨A1, cap1, rfl, hl1, hc1⟩ := ha
  obtain ⟨A2, cap2, rfl, hl2, hc2⟩ := hb
  have hm1 : (a.length : Int) ≤ 1073741824 := by omega
  have hm2 : (b.length : Int) ≤ 1073741824 := by omega
  by_cases hlen : a.length = b.length
  · have hlb : ((a.length : Int) != (b.length : Int)) = false := by simp [hlen]
    have HC1 : Hid (∀ W, Below w.heap.size w W → ∀ j i, a[j]? = some i → ∃ g, A1 = some ⟨g, 0, none⟩ ∧ g < W.heap.size ∧ W.cell? ⟨g, j, none⟩ = some (.int .i64 i)) := fun W hW j i hj => by
      obtain ⟨g, e, hg, h1⟩ := hc1 j i hj
      exact ⟨g, e, Nat.lt_of_lt_of_le hg hW.size, below_keeps hW _ _ h1⟩
    have HC2 : Hid (∀ W, Below w.heap.size w W → ∀ j i, b[j]? = some i → ∃ g, A2 = some ⟨g, 0, none⟩ ∧ g < W.heap.size ∧ W.cell? ⟨g, j, none⟩ = some (.int .i64 i)) := fun W hW j i hj => by
      obtain ⟨g, e, hg, h1⟩ := hc2 j i hj
      exact ⟨g, e, Nat.lt_of_lt_of_le hg hW.size, below_keeps hW _ _ h1⟩
    clear hc1 hc2
    go_enter Try.func49, Try.ntmps49
    go_wp2_with fail
    go_loopw [13] (fun i wr => ∃ k : Nat, k ≤ a.length ∧ i = .int .i64 k ∧ a.take k = b.take k ∧ Below w.heap.size w wr) (fun i _ => a.length - (intOf i).toNat)
    case atStart => exact ⟨0, by omega, rfl, rfl, Below.refl _ _⟩
    case round =>
      obtain ⟨k, hk, rfl, heq, hbl⟩ := hrel
      by_cases hlt : k < a.length
      · have hltb : (k : Int) < (b.length : Int) := by omega
        have hlta : (k : Int) < (a.length : Int) := by omega
        have ga : a[k]? = some a[k] := List.getElem?_eq_getElem hlt
        have gb : b[k]? = some (b[k]'(by omega)) := List.getElem?_eq_getElem (by omega)
        obtain ⟨g1, rfl, hg1, c1⟩ := HC1.out wr hbl k _ ga
        obtain ⟨g2, rfl, hg2, c2⟩ := HC2.out wr hbl k _ gb
        have hst := take_step ga gb heq
        generalize a[k] = x at *
        generalize b[k]'(by omega) = y at *
        by_cases hxy : x = y
        · have hxb : (x != y) = false := by simp [hxy]
          have HST := Lib.hid (hst.2 hxy)
          have HB := Lib.hid hbl
          clear hxy hst ga gb heq hbl
          go_upto_region 6 with fail
          (refine wp_region_quiet_plus (by kernel_rfl) (by kernel_rfl) ?_; (repeat (go_big_quiet_step (fail))); refine wpQuiet_nil ?_; intro _)
          go_wp2_with fail
          exact ⟨⟨k + 1, by omega, by go_num, HST.out, below_plus HB.out HB.out.size _⟩, by simp [intOf]; omega⟩
        · have hxb : (x != y) = true := by simp [hxy]
          have HNE : Hid (decide (a = b) = false) := decide_eq_false fun e => hxy (hst.1 (by rw [e]))
          have HB := Lib.hid hbl
          clear hxy hst ga gb heq hbl
          go_upto_region 6 with fail
          (refine wp_region_quiet_plus (by kernel_rfl) (by kernel_rfl) ?_; (repeat (go_big_quiet_step (fail))); refine wpQuiet_nil ?_; intro _)
          go_wp2_with fail
          go_ret
          exact ⟨by rw [HNE.out]; rfl, below_plus HB.out HB.out.size _⟩
      · have HEQ : Hid (decide (a = b) = true) := decide_eq_true (by
          have e : k = a.length := by omega
          rw [e, List.take_length, hlen, List.take_length] at heq
          exact heq)
        have HB := Lib.hid hbl
        clear heq hbl
        go_wp2_with fail
        go_ret
        exact ⟨by rw [HEQ.out]; rfl, HB.out⟩
  · have hlb : ((a.length : Int) != (b.length : Int)) = true := by simp; omega
    have HNE : Hid (decide (a = b) = false) := decide_eq_false fun e => hlen (by rw [e])
    clear hlen hc1 hc2
    go_enter Try.func49, Try.ntmps49
    go_wp2_with fail
    go_ret
    exact ⟨by rw [HNE.out]; rfl, by (repeat' (first | (with_reducible exact Below.refl _ _) | (with_reducible assumption) | (with_reducible refine below_plus ?_ ?_ _) | (with_reducible refine Below.alloc ?_ ?_ _) | (with_reducible refine Below.drew ?_) | (with_reducible refine below_drewN ?_ _) | (with_reducible refine Below.setCell ?_ ?_ _) | (first | omega | (simp only [World.size_alloc, size_plus, World.size_drew, World.size_setCell] <;> omega) | (simp <;> omega)) | omega | (simp; omega)))⟩
end Go.Proofs.Ytcicfijpfhbcaaa
