/-
  filecache: the iterator over the entries.
-/
/-
  filecache: entries, has.
-/
/-
  filecache.Check.
-/
/-
  filecache: check, frame, Frame, Shadow, NextDirty.
-/
import Derived.RangeFuncNested
import Derived.RangeFuncBound
import Derived.RangeFuncCalls
import Derived.RangeFuncLeaves
import Derived.Shelf.Abstract
import Derived.Shelf.RegionOpen
import Derived.WalkKit
import Derived.OwnWalkIn
import Derived.TacticsInMore
import Derived.LoopNIn
import Derived.LoopIn
import Derived.Test.YtcicfijpfhbcaaaPn
import Derived.Test.YtcicfijpfhbcaaaPe
import Derived.Maps.OwnIn
import Derived.Maps.Views
namespace Go.Proofs.Ytcicfijpfhbcaaa
set_option linter.unusedSimpArgs false
set_option linter.unusedVariables false
set_option linter.unusedSectionVars false
open Go.RowKit Go.Shelf
attribute [local go_sem] Oper.semAt_some

/-- A caller's own blocks of cells while a loop over an iterator runs: what they are is read off blocks that were there ahead of the loop. -/
structure FpOk (fp : World → Nat → Prop) (n0 n1 : Nat) : Prop where
  base : ∀ W b, fp W b → n0 ≤ b
  same : ∀ W W', (∀ k, k < n1 → W'.heap[k]? = W.heap[k]?) → ∀ b, fp W' b → fp W b
/-- What a round keeps: all cells but the caller's own. -/
structure KeepF (fp : World → Nat → Prop) (n0 : Nat) (W W' : World) : Prop where
  below : Below n0 W W'
  same : ∀ k cs t fr, W.heap[k]? = some (.cells cs t fr) → ¬ fp W k → W'.heap[k]? = W.heap[k]?
  own : ∀ b, fp W' b → fp W b ∨ W.heap.size ≤ b
  lt : (∀ b, fp W b → b < W.heap.size) → ∀ b, fp W' b → b < W'.heap.size
theorem KeepF.trans {fp : World → Nat → Prop} {n0 : Nat} {A B C : World} (h : KeepF fp n0 A B) (k : KeepF fp n0 B C) : KeepF fp n0 A C := by
  refine ⟨h.below.trans k.below, fun b cs t fr hb hn => ?_, fun b hb => ?_, fun hl => k.lt (h.lt hl)⟩
  · have h1 := h.same b cs t fr hb hn
    rw [← h1]
    refine k.same b cs t fr (h1.trans hb) fun hf => ?_
    rcases h.own b hf with h2 | h2
    · exact hn h2
    · have := lt_of_heap hb; omega
  · rcases k.own b hb with h2 | h2
    · exact h.own b h2
    · exact .inr (Nat.le_trans h.below.size h2)
theorem KeepF.put {fp : World → Nat → Prop} {n0 n1 : Nat} (hf : FpOk fp n0 n1) (h01 : n0 ≤ n1) (W : World) (l : Nat) (o o' : Obj) (hl : n1 ≤ l) (h : W.heap[l]? = some o) (hc : o.isCells = false) : KeepF fp n0 W (W.putObj l o') := by
  have hg := grownBy_putObj' W l o'
  have hll := lt_of_heap h
  have hs := hf.same W (W.putObj l o') fun k hk => hg.block k (by omega) fun e => by cases e; omega
  refine ⟨(Below.refl n0 W).grown hg (by omega) (fun k e => by cases e; omega), fun k cs t fr hk _ => hg.block k (lt_of_heap hk) fun e => ?_, fun b hb => .inl (hs b hb), fun hlt b hb => Nat.lt_of_lt_of_le (hlt b (hs b hb)) hg.size⟩
  cases e
  rw [h] at hk; injection hk with hk; subst hk; cases hc
theorem KeepF.of_below {fp : World → Nat → Prop} {n0 n1 : Nat} (hf : FpOk fp n0 n1) {W W' : World} (h0 : n0 ≤ W.heap.size) (h1 : n1 ≤ W.heap.size) (h : Below W.heap.size W W') : KeepF fp n0 W W' := by
  have hs := hf.same W W' fun k hk => h.block k (by omega)
  exact ⟨h.mono h0, fun k cs t fr hk _ => h.block k (lt_of_heap hk), fun b hb => .inl (hs b hb), fun hlt b hb => Nat.lt_of_lt_of_le (hlt b (hs b hb)) h.size⟩

/-- Where the iterator stands: the tree's box, the list of the indices. -/
structure RunI (fp : World → Nat → Prop) (w0 : World) (n1 B : Nat) (row : Array Value) (L : List Int) (v : Value) (W : World) : Prop where
  below : Below w0.heap.size w0 W
  box : W.heap[B]? = some (.cells row 28 (0, 0))
  list : OwnI W w0.heap.size L v
  out : ∀ q, v.ownBlock = some q → ¬ fp W q
  bout : ¬ fp W B
  lt : ∀ b, fp W b → b < W.heap.size
  n1_ : n1 ≤ W.heap.size
theorem RunI.keep {fp : World → Nat → Prop} {w0 W W' : World} {n1 B : Nat} {row : Array Value} {L : List Int} {v : Value} (h : RunI fp w0 n1 B row L v W) (hk : KeepF fp w0.heap.size W W') : RunI fp w0 n1 B row L v W' := by
  refine ⟨h.below.trans hk.below, (hk.same B _ _ _ h.box h.bout).trans h.box, ?_, fun q hq hf => ?_, fun hf => (hk.own B hf).elim h.bout fun e => by have := lt_of_heap h.box; omega, hk.lt h.lt, Nat.le_trans h.n1_ hk.below.size⟩
  · refine ⟨h.list.1, ?_⟩
    rcases h.list.2 with h1 | ⟨g, cap, cur, h1, h2, h3, h4⟩
    · exact .inl h1
    · exact .inr ⟨g, cap, cur, h1, h2, by rw [hk.same g _ _ _ h3 (h.out g (by rw [h1]; rfl))]; exact h3, h4⟩
  · rcases hk.own q hf with h2 | h2
    · exact h.out q hq h2
    · have := h.list.lt q hq; omega
theorem RunI.go {fp : World → Nat → Prop} {w0 W W' : World} {n1 B : Nat} {row : Array Value} {L : List Int} {v : Value} (hf : FpOk fp w0.heap.size n1) (h : RunI fp w0 n1 B row L v W) (hb : Below W.heap.size W W') : RunI fp w0 n1 B row L v W' :=
  h.keep (KeepF.of_below hf h.below.size h.n1_ hb)
theorem J_below {β : Type} {B : Nat} {J : β → World → Prop} (h : AbidesFrom B J) {s : β} {W W' : World} (hs : J s W) (hb : Below W.heap.size W W') : J s W' :=
  h s W W' none hs ⟨hb.os, hb.tape, hb.output, hb.size, fun k hk _ => hb.block k hk⟩ (fun r e => by cases e)

/-- An entry's index. -/
abbrev Ix (ht : Int) (x : RN) := { i : Int // i ∈ eachL ht x (-1) }
def ixV (ht : Int) (x : RN) (i : Ix ht x) : Array Value := #[.int .i64 i.1, .int .i64 (getP ht x i.1)]
theorem row12 {w : World} {g : Nat} {ht : Int} {y : RN} {s : Value} {t : TypeId} {fr : Nat × Nat} (h : w.heap[g]? = some (.cells (cellsR ht y s) t fr)) :
    (w.cell? ⟨g, 0, none⟩ = some (.int .i64 ht) ∧ w.cell? ⟨g, 1, none⟩ = some (.int .i64 (y.v 0)) ∧ w.cell? ⟨g, 2, none⟩ = some (.int .i64 (y.v 1)) ∧ w.cell? ⟨g, 3, none⟩ = some (.int .i64 (y.v 2)) ∧ w.cell? ⟨g, 4, none⟩ = some (.int .i64 (y.v 3)) ∧ w.cell? ⟨g, 5, none⟩ = some (.int .i64 (y.v 4))) ∧
    w.cell? ⟨g, 6, none⟩ = some (.int .i64 (y.v 5)) ∧ w.cell? ⟨g, 7, none⟩ = some (.int .i64 (y.v 6)) ∧ w.cell? ⟨g, 8, none⟩ = some (.int .i64 (y.v 7)) ∧ w.cell? ⟨g, 9, none⟩ = some (.int .i64 y.t0) ∧ w.cell? ⟨g, 10, none⟩ = some (.int .i64 y.t1) ∧ w.cell? ⟨g, 11, none⟩ = some s := by
  have hc : ∀ j, w.cell? ⟨g, j, none⟩ = (cellsR ht y s)[j]? := fun j => cell_of_row _ _ _ _ _ _ h
  exact ⟨⟨hc 0, hc 1, hc 2, hc 3, hc 4, hc 5⟩, hc 6, hc 7, hc 8, hc 9, hc 10, hc 11⟩

set_option maxRecDepth 100000 in
set_option maxHeartbeats 1000000 in
theorem ents_stops (A : Option Addr) (cap : Nat) (ht : Int) (x : RN) (w0 w : World) (fp : World → Nat → Prop) (n1 B : Nat) (hr : RdVals w0 (cellsR ht x (.slice A x.n cap)) 12 (encR ht x)) (hb : Below w0.heap.size w0 w)
    (hB : w.heap[B]? = some (.cells (cellsR ht x (.slice A x.n cap)) 28 (0, 0))) (hBn : ¬ fp w B) (hf : FpOk fp w0.heap.size n1) (hlt : ∀ b, fp w b → b < w.heap.size) (hn1 : n1 ≤ w.heap.size) (n : Nat) (hn : 1 ≤ n) :
    SeqStopsK Fence.wide n Try.prog 107 #[.pointer (some ⟨B, 0, none⟩)] (ixV ht x) (KeepF fp w0.heap.size) (fun ys => ys.map (fun i => i.1) = eachL ht x (-1)) (fun pre => pre.map (fun i => i.1) <+: eachL ht x (-1)) (eachL ht x (-1)).length w := fun l J Jx W hW hJ hJx hY h0 => by
  have HR := Lib.hid hr
  have HBW : Hid (Below w0.heap.size w0 W) := hb.trans (hW.mono hb.size)
  have hBW : W.heap[B]? = some (.cells (cellsR ht x (.slice A x.n cap)) 28 (0, 0)) := (hW.block _ (lt_of_heap hB)).trans hB
  have HBH := Lib.hid hBW
  have hn1W : n1 ≤ W.heap.size := Nat.le_trans hn1 hW.size
  have HLT : Hid (∀ b, fp W b → b < W.heap.size) := fun b h => Nat.lt_of_lt_of_le (hlt b (hf.same w W (fun k hk => hW.block k (by omega)) b h)) hW.size
  have d12 := row12 hBW
  have hlB := lt_of_heap hBW
  have HJ := Lib.hid hJ
  have HJX := Lib.hid hJx
  have HY := Lib.hid hY
  have H0 := Lib.hid h0
  have HF := Lib.hid hf
  have HBN : Hid (¬ fp W B) := fun h => hBn (hf.same w W (fun k hk => hW.block k (by omega)) B h)
  clear hr hb hB hW hJ hJx hY h0 hBW hf hlt hBn
  have hmem : Hid (∀ i ∈ eachL ht x (-1), 0 ≤ i ∧ i < 1073741824) := fun i hi => by have := each_at hi; exact ⟨this.1, this.2.1⟩
  refine callsIn_of_wp Try.func107 rfl trivial ?_ rfl
  simp only [Try.ntmps107, List.size_toArray, List.length_cons, List.length_nil, Nat.reduceAdd, Nat.reduceSub, Array.replicate_succ, Array.replicate_zero, List.push_toArray, List.append_toArray, List.nil_append, List.cons_append]
  gi_wp2_with (refine ⟨trivial, ?_⟩; gi_at_call 38; refine (callsIn_wide.2 (p_List _ ht x _ ?_)).mono ?_; exact HR.out.keep (below_keeps HBW.out); rintro e W1 ⟨v, rfl, ho, hb1⟩; (obtain ⟨A1, cap1, rfl, hc1, hc2⟩ := ho.slice); have HO := Lib.hid ho; have HB1 := Lib.hid hb1; clear ho hb1)
  have hrun : RunI fp w0 n1 B (cellsR ht x (.slice A x.n cap)) (eachL ht x (-1)) (.slice A1 (eachL ht x (-1)).length cap1) W1 :=
    ⟨HBW.out.trans (HB1.out.mono HBW.out.size), (HB1.out.block _ hlB).trans HBH.out, HO.out.mono HBW.out.size, fun q hq hh => by
      have h1 := HLT.out q (HF.out.same W W1 (fun k hk => HB1.out.block k (by omega)) q hh)
      have := HO.out.base_ q hq
      omega, fun h => HBN.out (HF.out.same W W1 (fun k hk => HB1.out.block k (by omega)) B h), fun b h => Nat.lt_of_lt_of_le (HLT.out b (HF.out.same W W1 (fun k hk => HB1.out.block k (by omega)) b h)) HB1.out.size, Nat.le_trans hn1W HB1.out.size⟩
  have HRUN := Lib.hid hrun
  have hJ1 : J [] W1 := J_below HJ.out H0.out HB1.out
  have HJ1 := Lib.hid hJ1
  have hlen : ((eachL ht x (-1)).length : Int) ≤ 9223372036854775807 := by unfold maxLen at hc2; omega
  clear hrun hJ1 HO HBW HBH HLT H0 HB1 d12 hlB hn1W
  generalize hL : eachL ht x (-1) = L at *
  replace hL := Lib.hid hL
  gi_loopw [8] (fun i wr => ∃ (k : Nat) (pre : List (Ix ht x)), k ≤ L.length ∧ i = .int .i64 k ∧ pre.map (fun i => i.1) = L.take k ∧ J pre wr ∧ RunI fp w0 n1 B (cellsR ht x (.slice A x.n cap)) L (.slice A1 L.length cap1) wr) (fun i _ => L.length - (intOf i).toNat)
  case atStart => exact ⟨0, [], Nat.zero_le _, rfl, rfl, HJ1.out, HRUN.out⟩
  case round =>
    obtain ⟨k, pre, hk, rfl, hpre, hJs, hrun⟩ := hrel
    by_cases hlt : k < L.length
    · have hlt' : (k : Int) < (L.length : Int) := by omega
      have hg : L[k]? = some L[k] := List.getElem?_eq_getElem hlt
      have hmk : L[k] ∈ L := List.getElem_mem hlt
      have hix : L[k] ∈ eachL ht x (-1) := by rw [hL.out]; exact hmk
      have hbd := hmem.out _ hmk
      obtain ⟨g, cap', hs, -, hgw, ci⟩ := hrun.list.at hg
      injection hs with e1 e2 e3
      subst e1 e3
      have d12 := row12 hrun.box
      have hlB := lt_of_heap hrun.box
      have HRUN2 := Lib.hid hrun
      have HJS := Lib.hid hJs
      have hnext : Hid ((pre ++ [(⟨L[k], hix⟩ : Ix ht x)]).map (fun i => i.1) = L.take (k + 1)) := by
        unfold Hid
        rw [List.map_append, hpre, List.take_add_one, hg]; rfl
      have hplen : Hid (pre.length < L.length) := by
        unfold Hid
        have := congrArg List.length hpre
        rw [List.length_map, List.length_take] at this
        omega
      generalize hix' : (⟨L[k], hix⟩ : Ix ht x) = ix at hnext
      have hixv : L[k] = ix.1 := by rw [← hix']
      rw [hixv] at ci hbd
      clear hix' hixv hix hmk hg e2 hrun hJs hpre HRUN HJ1
      have b0 : -9223372036854775808 ≤ ix.1 := by omega
      have b1 : ix.1 ≤ 9223372036854775807 := by omega
      gi_wp2_with (refine ⟨trivial, ?_⟩; gi_at_call 26; refine (callsIn_wide.2 (p_Get _ ht x ix.1 _ ?_ b0 b1)).mono ?_; exact HR.out.keep (below_keeps HRUN2.out.below); rintro e W2 ⟨rfl, hb2⟩; (have HJ2 := Lib.hid (J_below HJ.out HJS.out hb2)); (have HRUN3 := Lib.hid (HRUN2.out.go HF.out hb2)); (obtain ⟨fn, tmps, assign, body, hy, hRR⟩ := HY.out pre ix W2 HJ2.out hplen.out); dsimp only [ixV] at hy; have HRR := Lib.hid hRR; clear hb2 hRR)
      refine HRR.out.mono ?_
      rintro e W3 (⟨rfl, hJ3, hk3⟩ | ⟨rfl, hJx3⟩)
      · have HRUN4 := Lib.hid (HRUN3.out.keep hk3)
        have HJ3 := Lib.hid hJ3
        clear hJ3 hk3
        gi_wp2
        go_roundw
        case rel => exact ⟨k + 1, pre ++ [ix], by omega, by go_num, hnext.out, HJ3.out, HRUN4.out⟩
        case measure => simp [intOf]; omega
      · have HJ3 := Lib.hid hJx3
        clear hJx3
        gi_wp2
        refine bodyPost_ret (results_none rfl _ _ _) rfl ?_
        exact ⟨⟨_, rfl⟩, .inr ⟨_, by rw [hnext.out, hL.out]; exact List.take_prefix _ _, HJ3.out⟩⟩
    · obtain rfl : k = L.length := by omega
      have HJS := Lib.hid hJs
      have HP := Lib.hid hpre
      clear hJs hpre hrun
      gi_wp2
      go_end0
      exact ⟨⟨_, rfl⟩, .inl ⟨_, by rw [HP.out, List.take_length]; exact hL.out.symm, HJS.out⟩⟩
end Go.Proofs.Ytcicfijpfhbcaaa
namespace Go.Proofs.Ytcicfijpfhbcaaa
set_option linter.unusedSimpArgs false
set_option linter.unusedVariables false
set_option linter.unusedSectionVars false
open Go.RowKit Go.Shelf
attribute [local go_sem] Oper.semAt_some

theorem KeepF.refl (fp : World → Nat → Prop) (n0 : Nat) (W : World) : KeepF fp n0 W W := ⟨Below.refl _ _, fun _ _ _ _ _ _ => rfl, fun _ h => .inl h, id⟩
/-- One cell alone is the caller's. -/
def fpC (g : Nat) : World → Nat → Prop := fun _ b => b = g
theorem fpC_ok {g n0 n1 : Nat} (h : n0 ≤ g) : FpOk (fpC g) n0 n1 := ⟨fun _ b e => by rw [show b = g from e]; exact h, fun _ _ _ _ h => h⟩
theorem heap_kept {W W' : World} {row : Option Nat} {k : Nat} {cs : Array Value} {t : TypeId} {fr : Nat × Nat} (h : W.heap[k]? = some (.cells cs t fr)) (hg : W.grownBy W' row) (hr : ∀ r, row = some r → ∃ o : Obj, W.heap[r]? = some o ∧ o.isCells = false) : W'.heap[k]? = some (.cells cs t fr) :=
  (hg.block k (lt_of_heap h) fun e => by
    obtain ⟨o, ho, hc⟩ := hr k e.symm
    rw [h] at ho; injection ho with ho; subst ho; cases hc).trans h
theorem any_no {α : Type} (q : α → Bool) (l : List α) (h : ∀ i ∈ l, q i = false) : l.any q = false := by
  rw [List.any_eq_false]; exact fun i hi => by simp [h i hi]

set_option maxRecDepth 100000 in
set_option maxHeartbeats 1000000 in
theorem c_entries (cs : Array Value) (hc : cs.size = 12) (w : World) : Calls Try.prog 90 #[.agg cs] w fun e w' => e = .returned (.func (.func 107) #[] #[.pointer (some ⟨w.heap.size, 0, none⟩)]) ∧ w' = w.alloc (.cells cs 28) := by
  go_enter Try.func90, Try.ntmps90
  go_wp2_with fail
  go_ret
  exact ⟨rfl, rfl⟩

/-- What has answers. -/
def hasP (ht : Int) (x : RN) (f : Int) : Bool := (eachL ht x (-1)).any fun i => getP ht x i == f + 1
set_option maxRecDepth 100000 in
set_option maxHeartbeats 1000000 in
theorem c_has (cs : Array Value) (ht : Int) (x : RN) (f : Int) (f0 : 0 ≤ f) (f1 : f < 256) (w : World) (hr : RdVals w cs 12 (encR ht x)) :
    Calls Try.prog 95 #[.agg cs, .int .i64 f] w fun e w' => e = .returned (.bool (hasP ht x f)) ∧ Below w.heap.size w w' := by
  obtain ⟨A, cap, rfl, hk⟩ := rdR_open hr
  have HR := Lib.hid hr
  clear hr hk
  refine (callsIn_wide (n := 3)).1 ?_
  refine callsIn_of_wp_marks Try.func95 rfl trivial ?_ rfl
  simp only [Try.ntmps95, List.size_toArray, List.length_cons, List.length_nil, Nat.reduceAdd, Nat.reduceSub, Array.replicate_succ, Array.replicate_zero, List.push_toArray, List.append_toArray, List.nil_append, List.cons_append]
  have h3 : (1 : Nat) ≤ 3 := by omega
  gi_wp2_with (refine ⟨trivial, ?_⟩; gi_at_call 90; refine (callsIn_wide.2 (c_entries _ rfl _)).mono ?_; rintro e w' ⟨rfl, rfl⟩)
  generalize hW1 : World.alloc (World.alloc (World.alloc (World.alloc w _) _) _) _ = W1
  have hsz : W1.heap.size = w.heap.size + 4 := by rw [← hW1]; simp
  have hB0 : Below w.heap.size w W1 := by rw [← hW1]; (repeat' (first | (with_reducible exact Below.refl _ _) | (with_reducible assumption) | (with_reducible refine below_plus ?_ ?_ _) | (with_reducible refine Below.alloc ?_ ?_ _) | (with_reducible refine Below.drew ?_) | (with_reducible refine below_drewN ?_ _) | (with_reducible refine Below.setCell ?_ ?_ _) | (first | omega | (simp only [World.size_alloc, size_plus, World.size_drew, World.size_setCell] <;> omega) | (simp <;> omega)) | omega | (simp; omega)))
  have b1 : W1.heap[w.heap.size + 1]? = some (.cells #[.int .i64 f] 3 (0, 0)) := by rw [← hW1]; (repeat' (first | (refine heap_alloc_here _ _ _ ?_; (first | omega | (simp only [World.size_alloc, size_plus, World.size_drew, World.size_setCell] <;> omega) | (simp <;> omega))) | (refine (heap_alloc_old _ _ _ ?_).trans ?_; (first | omega | (simp only [World.size_alloc, size_plus, World.size_drew, World.size_setCell] <;> omega) | (simp <;> omega))) | (refine (heap_plus _ _ _ ?_).trans ?_; (first | omega | (simp only [World.size_alloc, size_plus, World.size_drew, World.size_setCell] <;> omega) | (simp <;> omega))) | rfl))
  have b2 : W1.heap[w.heap.size + 1 + 1]? = some (.cells #[.bool false] 4 (0, 0)) := by rw [← hW1]; (repeat' (first | (refine heap_alloc_here _ _ _ ?_; (first | omega | (simp only [World.size_alloc, size_plus, World.size_drew, World.size_setCell] <;> omega) | (simp <;> omega))) | (refine (heap_alloc_old _ _ _ ?_).trans ?_; (first | omega | (simp only [World.size_alloc, size_plus, World.size_drew, World.size_setCell] <;> omega) | (simp <;> omega))) | (refine (heap_plus _ _ _ ?_).trans ?_; (first | omega | (simp only [World.size_alloc, size_plus, World.size_drew, World.size_setCell] <;> omega) | (simp <;> omega))) | rfl))
  have b3 : W1.heap[w.heap.size + 1 + 1 + 1]? = some (.cells (cellsR ht x (.slice A x.n cap)) 28 (0, 0)) := by rw [← hW1]; (repeat' (first | (refine heap_alloc_here _ _ _ ?_; (first | omega | (simp only [World.size_alloc, size_plus, World.size_drew, World.size_setCell] <;> omega) | (simp <;> omega))) | (refine (heap_alloc_old _ _ _ ?_).trans ?_; (first | omega | (simp only [World.size_alloc, size_plus, World.size_drew, World.size_setCell] <;> omega) | (simp <;> omega))) | (refine (heap_plus _ _ _ ?_).trans ?_; (first | omega | (simp only [World.size_alloc, size_plus, World.size_drew, World.size_setCell] <;> omega) | (simp <;> omega))) | rfl))
  clear hW1
  have hfp : FpOk (fpC (w.heap.size + 1 + 1)) w.heap.size W1.heap.size := fpC_ok (by omega)
  refine wpIn_rangeFunc_ownG rfl (by omega) (gf := 107) (lb := #[.pointer (some ⟨w.heap.size + 1 + 1 + 1, 0, none⟩)]) rfl trivial (enters_of Try.func107 (by kernel_rfl) rfl)
    (ents_stops A cap ht x w W1 (fpC (w.heap.size + 1 + 1)) W1.heap.size _ HR.out hB0 b3 (fun e => by have : w.heap.size + 1 + 1 + 1 = w.heap.size + 1 + 1 := e; omega) hfp (fun b e => by have : b = w.heap.size + 1 + 1 := e; omega) (Nat.le_refl _) _ (by omega)) KeepF.trans (fun W l o o' hl h hc _ => KeepF.put hfp (by omega) W l o o' hl h hc) (Below.refl _ _) (fun _ => rfl)
    (fun pre W => ((∀ i ∈ pre, (getP ht x i.1 == f + 1) = false) ∧ W.cell? ⟨w.heap.size + 1, 0, none⟩ = some (.int .i64 f) ∧ W.cell? ⟨w.heap.size + 1 + 1, 0, none⟩ = some (.bool false) ∧ W.frozen? ⟨w.heap.size + 1 + 1, 0, none⟩ = false) ∧ Below w.heap.size w W)
    (fun c pre W => (c = .ret ∧ (∃ i ∈ pre, (getP ht x i.1 == f + 1) = true) ∧ W.cell? ⟨w.heap.size + 1 + 1, 0, none⟩ = some (.bool true)) ∧ Below w.heap.size w W)
    (OwnFrom.and (Own.from (fun s A B row hs hg hr => ⟨hs.1, cell_kept hs.2.1 hg hr, cell_kept hs.2.2.1 hg hr, (frozen_kept hs.2.2.1 hg hr).trans hs.2.2.2⟩) _) (ownFrom_below (Nat.le_refl _) (by omega)))
    (fun c => OwnFrom.and (Own.from (fun s A B row hs hg hr => ⟨hs.1, hs.2.1, cell_kept hs.2.2 hg hr⟩) _) (ownFrom_below (Nat.le_refl _) (by omega)))
    ⟨⟨fun i hi => absurd hi (by simp), cell_of_row _ _ _ _ _ _ b1, cell_of_row _ _ _ _ _ _ b2, frozen_of_row _ _ _ _ _ b2⟩, hB0⟩
    (fun i => { tmps := #[.agg (cellsR ht x (.slice A x.n cap)), .int .i64 f, .pointer (some ⟨w.heap.size, 0, none⟩), .pointer (some ⟨w.heap.size + 1, 0, none⟩), .pointer (some ⟨w.heap.size + 1 + 1, 0, none⟩), undef, .int .i64 (getP ht x i.1), .agg (cellsR ht x (.slice A x.n cap)), .func (.func 107) #[] #[.pointer (some ⟨w.heap.size + 1 + 1 + 1, 0, none⟩)], .int .i64 i.1, .int .i64 (getP ht x i.1), undef, undef, undef, undef], defers := [] }) ?assign ?body ?done ?stop
  case assign =>
    intro l i W K hK
    dsimp only [ixV]
    gi_wp2
    exact hK
  case body =>
    rintro l pre i W ⟨⟨hp, hc1, hc2, hf2⟩, hB⟩ _
    by_cases hx : getP ht x i.1 = f + 1
    · have hxb : (getP ht x i.1 == f + 1) = true := by simp [hx]
      have HP := Lib.hid hp
      clear hp hx
      gi_wp2
      exact ⟨(KeepsOthers.setCell _ _ _).from _, ⟨rfl, ⟨i, by simp, hxb⟩, World.cell?_setCell_same' _ _ _ (by rw [hc2]; rfl)⟩, hB.setCell (p := ⟨w.heap.size + 1 + 1, 0, none⟩) (by show w.heap.size ≤ w.heap.size + 1 + 1; omega) _⟩
    · have hxb : (getP ht x i.1 == f + 1) = false := by simp [hx]
      have HP := Lib.hid hp
      clear hp hx
      gi_wp2
      exact ⟨KeepsFrom.refl _ _, KeepF.refl _ _ _, ⟨fun j hj => (List.mem_append.1 hj).elim (HP.out j) (fun e => by simp at e; subst e; exact hxb), hc1, hc2, hf2⟩, hB⟩
  case done =>
    rintro D ys W hD hys ⟨⟨hne, hc1, hcr, hfr⟩, hB⟩ hK
    have HNE := Lib.hid hne
    have HYS := Lib.hid hys
    clear hne hys
    gi_wp2
    have hK' := (KeepsOthers.setCell W ⟨w.heap.size + 1 + 1, 0, none⟩ (.bool false)).same D _ hK rfl
    refine ⟨by simp, .inl ⟨_, _, rfl, run_takeDeferred hK', ?_⟩⟩
    have hc5 := cell_kept (World.cell?_setCell_same' W ⟨w.heap.size + 1 + 1, 0, none⟩ (.bool false) (by rw [hcr]; rfl)) (grownBy_putObj' _ D (.deferred none)) (fun r e => by cases e; exact ⟨_, hK', rfl⟩)
    refine ⟨.bool false, ?_, ?_, (hB.setCell (p := ⟨w.heap.size + 1 + 1, 0, none⟩) (by show w.heap.size ≤ w.heap.size + 1 + 1; omega) _).trans (belowK_b (w := w) (Nat.le_refl _) _ D _ _ (by omega) hK' rfl rfl)⟩
    · simp [results, Try.f95, go_sem, hc5]
    · have : hasP ht x f = false := any_no _ _ fun j hj => by
        rw [← HYS.out] at hj
        obtain ⟨i, hi, rfl⟩ := List.mem_map.1 hj
        exact HNE.out i hi
      rw [this]
  case stop =>
    rintro D c pre W hD hpre ⟨⟨rfl, ⟨i, hi, hib⟩, hcr⟩, hB⟩ hK
    have HIB := Lib.hid hib
    have HPR := Lib.hid hpre
    clear hib hpre
    gi_wp2
    refine ⟨by simp, .inl ⟨_, _, rfl, run_takeDeferred hK, ?_⟩⟩
    have hc5 := cell_kept hcr (grownBy_putObj' _ D (.deferred none)) (fun r e => by cases e; exact ⟨_, hK, rfl⟩)
    refine ⟨.bool true, ?_, ?_, hB.trans (belowK_b (w := w) (Nat.le_refl _) W D _ _ (by omega) hK rfl rfl)⟩
    · simp [results, Try.f95, go_sem, hc5]
    · have : hasP ht x f = true := List.any_eq_true.2 ⟨i.1, i.2, HIB.out⟩
      rw [this]
end Go.Proofs.Ytcicfijpfhbcaaa
namespace Go.Proofs.Ytcicfijpfhbcaaa
set_option linter.unusedSimpArgs false
set_option linter.unusedVariables false
set_option linter.unusedSectionVars false
open Go.RowKit Go.Shelf
attribute [local go_sem] Oper.semAt_some

/-- An entry that is no cache's. -/
def badB (ht : Int) (x : RN) (i : Int) : Bool := decide (256 < getP ht x i) || (decide (getP ht x i < 0) && (taggedP ht x i 0 || taggedP ht x i 1))
/-- A frame that occurs twice. -/
def dupL : List Int → Bool
  | [] => false
  | v :: r => (decide (0 < v) && r.contains v) || dupL r
theorem dup_snoc : ∀ (l : List Int) (v : Int), dupL (l ++ [v]) = (dupL l || (decide (0 < v) && l.contains v))
  | [], v => by simp [dupL]
  | u :: l, v => by
    have e1 : (l ++ [v]).contains u = (l.contains u || u == v) := by rw [List.contains_eq_any_beq, List.any_append, ← List.contains_eq_any_beq]; simp only [List.any_cons, List.any_nil, Bool.or_false]
    have e2 : (u :: l).contains v = (v == u || l.contains v) := List.contains_cons ..
    rw [List.cons_append, dupL, dupL, dup_snoc l v, e1, e2]
    by_cases he : u = v
    · subst he
      rw [beq_self_eq_true]
      cases l.contains u <;> cases decide (0 < u) <;> cases dupL l <;> rfl
    · have h1 : (u == v) = false := by simp [he]
      have h2 : (v == u) = false := by simp; exact fun e => he e.symm
      rw [h1, h2]
      cases l.contains u <;> cases l.contains v <;> cases decide (0 < u) <;> cases decide (0 < v) <;> cases dupL l <;> rfl
/-- What Check answers. -/
def fcP (ht : Int) (x : RN) : Int :=
  if checkP ht x ≠ 0 then checkP ht x else if (eachL ht x (-1)).any (badB ht x) then 3 else if dupL ((eachL ht x (-1)).map (getP ht x)) then 7 else 0

/-- The values are within their range. -/
def vOk (ht : Int) (x : RN) : Prop := ∀ i, -9223372036854775808 ≤ getP ht x i ∧ getP ht x i ≤ 9223372036854775807
/-- Where Check stands: its box, its result. -/
structure CkW (w0 : World) (row : Array Value) (r : Int) (W : World) : Prop where
  box : W.heap[w0.heap.size]? = some (.cells row 28 (0, 0))
  res : W.heap[w0.heap.size + 1]? = some (.cells #[.int .i64 r] 3 (0, 0))
  below : Below w0.heap.size w0 W
theorem CkW.go {w0 W W' : World} {row : Array Value} {r : Int} (h : CkW w0 row r W) (hb : Below W.heap.size W W') : CkW w0 row r W' :=
  ⟨(hb.block _ (lt_of_heap h.box)).trans h.box, (hb.block _ (lt_of_heap h.res)).trans h.res, h.below.trans (hb.mono h.below.size)⟩
theorem CkW.set {w0 W : World} {row : Array Value} {r : Int} (h : CkW w0 row r W) (q : Int) : CkW w0 row q (W.setCell ⟨w0.heap.size + 1, 0, none⟩ (.int .i64 q)) :=
  ⟨(heap_setCell_other _ _ _ _ (by show w0.heap.size ≠ w0.heap.size + 1; omega)).trans h.box, heap_set_one h.res _, h.below.setCell (p := ⟨w0.heap.size + 1, 0, none⟩) (by show w0.heap.size ≤ w0.heap.size + 1; omega) _⟩
theorem CkW.own {β : Type} {w0 : World} {row : Array Value} {r : Int} {B : Nat} (hB : w0.heap.size ≤ B) (q : β → Prop) : OwnFrom B (fun (s : β) W => q s ∧ CkW w0 row r W) := fun s W W' rw hs hg hr =>
  ⟨hs.1, heap_kept hs.2.box hg fun r e => (hr r e).2, heap_kept hs.2.res hg fun r e => (hr r e).2, hs.2.below.grown hg hs.2.below.size fun k e => Nat.le_trans hB (hr k e).1⟩
theorem keepsFrom_below {B : Nat} {W W' : World} (hb : Below W.heap.size W W') : KeepsFrom B W W' := ⟨hb.size, fun k o _ hk _ => (hb.block k (lt_of_heap hk)).trans hk⟩

theorem CkW.grown {w0 W W' : World} {row : Array Value} {r : Int} {b : Nat} {o : Obj} (h : CkW w0 row r W) (hg : W.grownBy W' (some b)) (ho : W.heap[b]? = some o) (hc : o.isCells = false) (hb : w0.heap.size ≤ b) : CkW w0 row r W' :=
  ⟨heap_kept h.box hg fun r e => by cases e; exact ⟨o, ho, hc⟩, heap_kept h.res hg fun r e => by cases e; exact ⟨o, ho, hc⟩, h.below.grown hg h.below.size fun k e => by cases e; exact hb⟩
theorem KeepF.grown {g n0 b : Nat} {W W' : World} {o : Obj} (hg : W.grownBy W' (some b)) (ho : W.heap[b]? = some o) (hc : o.isCells = false) (hb : n0 ≤ b) (hn : n0 ≤ W.heap.size) : KeepF (fpC g) n0 W W' :=
  ⟨(Below.refl n0 W).grown hg hn fun k e => by cases e; exact hb, fun k cs t fr hk _ => hg.block k (lt_of_heap hk) fun e => (by cases e; rw [ho] at hk; injection hk with hk; subst hk; cases hc), fun _ h => .inl h, fun h b' hb' => Nat.lt_of_lt_of_le (h b' hb') hg.size⟩
theorem plainElem_bool_inv {H : Type} {P : Program} {e : TypeId} (he : P.underlying e = some .bool) {v : Value} {z : DataW H × List MemPlace} (h : plainElem P e v = some z) : ∃ a, v = .bool a ∧ z = (.lit (.bool a), []) := by
  unfold plainElem at h
  rw [he] at h
  cases v <;> simp at h
  exact ⟨_, rfl, h.symm⟩
/-- The map of the values that came. -/
def seenM (W : World) (m n : Nat) (l : List Int) : Prop := ∃ D : DataW Unit, W.ownsMap Try.prog 3 (plainElem Try.prog 4) m n D ∧ Maps.IsMap D ∧ ∀ v, D.atKey (.int .i64 v) (.lit (.bool false)) = .lit (.bool (l.contains v))
theorem len_each (ht : Int) (x : RN) : (eachL ht x (-1)).length ≤ 1073741824 := by
  rw [each_list, idxL, List.length_map]; exact entT_len ht x
/-- The values of the entries that came. -/
def valsL {ht : Int} {x : RN} (l : List (Ix ht x)) : List Int := l.map fun i => getP ht x i.1
theorem vals_snoc {ht : Int} {x : RN} (pre : List (Ix ht x)) (i : Ix ht x) : valsL (pre ++ [i]) = valsL pre ++ [getP ht x i.1] := by simp [valsL]
theorem vals_of {ht : Int} {x : RN} {l : List (Ix ht x)} {m : List Int} (h : l.map (fun i => i.1) = m) : valsL l = m.map (getP ht x) := by rw [← h, List.map_map]; rfl
theorem dup_append : ∀ (b a : List Int), dupL a = true → dupL (a ++ b) = true
  | [], a, h => by simpa using h
  | v :: b, a, h => by
    rw [show a ++ v :: b = (a ++ [v]) ++ b by simp]
    exact dup_append b _ (by rw [dup_snoc, h]; rfl)

set_option maxRecDepth 100000 in
set_option maxHeartbeats 1000000 in
theorem c_Check (cs : Array Value) (ht : Int) (x : RN) (w : World) (hr : RdVals w cs 12 (encR ht x)) (hv : vOk ht x) :
    Calls Try.prog 41 #[.agg cs] w fun e w' => e = .returned (.int .i64 (fcP ht x)) ∧ Below w.heap.size w w' := by
  obtain ⟨A, cap, rfl, hk⟩ := rdR_open hr
  have HR := Lib.hid hr
  have HV := Lib.hid hv
  clear hr hk hv
  by_cases hc : checkP ht x ≠ 0
  · have hf : Hid (fcP ht x = checkP ht x) := if_pos hc
    have hcb : (checkP ht x != 0) = true := by simp [hc]
    clear hc
    go_enter Try.func41, Try.ntmps41
    go_wp2_with (go_at_call 19; refine (p_Check _ ht x _ ?_).mono ?_; exact HR.out.keep (below_keeps (by (repeat' (first | (with_reducible exact Below.refl _ _) | (with_reducible assumption) | (with_reducible refine below_plus ?_ ?_ _) | (with_reducible refine Below.alloc ?_ ?_ _) | (with_reducible refine Below.drew ?_) | (with_reducible refine below_drewN ?_ _) | (with_reducible refine Below.setCell ?_ ?_ _) | (first | omega | (simp only [World.size_alloc, size_plus, World.size_drew, World.size_setCell] <;> omega) | (simp <;> omega)) | omega | (simp; omega))))); rintro e w' ⟨rfl, hb⟩; (first | (obtain ⟨X, rfl⟩ := plus_again hb) | (obtain ⟨X, rfl⟩ := plus_of_below hb)); clear hb)
    refine bodyPost_ret (v := .int .i64 (checkP ht x)) ?_ rfl ⟨by rw [hf.out], ?_⟩
    · simp [results, Try.f41, go_sem]
    · (repeat' (first | (with_reducible exact Below.refl _ _) | (with_reducible assumption) | (with_reducible refine below_plus ?_ ?_ _) | (with_reducible refine Below.alloc ?_ ?_ _) | (with_reducible refine Below.drew ?_) | (with_reducible refine below_drewN ?_ _) | (with_reducible refine Below.setCell ?_ ?_ _) | (first | omega | (simp only [World.size_alloc, size_plus, World.size_drew, World.size_setCell] <;> omega) | (simp <;> omega)) | omega | (simp; omega)))
  · have hcb : (checkP ht x != 0) = false := by simpa using hc
    have hf : Hid (fcP ht x = if (eachL ht x (-1)).any (badB ht x) then 3 else if dupL ((eachL ht x (-1)).map (getP ht x)) then 7 else 0) := if_neg hc
    clear hc
    refine (callsIn_wide (n := 3)).1 ?_
    refine callsIn_of_wp_marks Try.func41 rfl trivial ?_ rfl
    simp only [Try.ntmps41, List.size_toArray, List.length_cons, List.length_nil, Nat.reduceAdd, Nat.reduceSub, Array.replicate_succ, Array.replicate_zero, List.push_toArray, List.append_toArray, List.nil_append, List.cons_append]
    have h3 : (1 : Nat) ≤ 3 := by omega
    gi_wp2_with (first
      | (refine ⟨trivial, ?_⟩; gi_at_call 19; refine (callsIn_wide.2 (p_Check _ ht x _ ?_)).mono ?_; exact HR.out.keep (below_keeps (by (repeat' (first | (with_reducible exact Below.refl _ _) | (with_reducible assumption) | (with_reducible refine below_plus ?_ ?_ _) | (with_reducible refine Below.alloc ?_ ?_ _) | (with_reducible refine Below.drew ?_) | (with_reducible refine below_drewN ?_ _) | (with_reducible refine Below.setCell ?_ ?_ _) | (first | omega | (simp only [World.size_alloc, size_plus, World.size_drew, World.size_setCell] <;> omega) | (simp <;> omega)) | omega | (simp; omega))))); rintro e V1 ⟨rfl, hb⟩; (have hv1 : CkW w (cellsR ht x (.slice A x.n cap)) 0 V1 := ⟨(hb.block _ (by (first | omega | (simp only [World.size_alloc, size_plus, World.size_drew, World.size_setCell] <;> omega) | (simp <;> omega)))).trans (by (repeat' (first | (refine heap_alloc_here _ _ _ ?_; (first | omega | (simp only [World.size_alloc, size_plus, World.size_drew, World.size_setCell] <;> omega) | (simp <;> omega))) | (refine (heap_alloc_old _ _ _ ?_).trans ?_; (first | omega | (simp only [World.size_alloc, size_plus, World.size_drew, World.size_setCell] <;> omega) | (simp <;> omega))) | (refine (heap_plus _ _ _ ?_).trans ?_; (first | omega | (simp only [World.size_alloc, size_plus, World.size_drew, World.size_setCell] <;> omega) | (simp <;> omega))) | rfl))), (hb.block _ (by (first | omega | (simp only [World.size_alloc, size_plus, World.size_drew, World.size_setCell] <;> omega) | (simp <;> omega)))).trans (by (repeat' (first | (refine heap_alloc_here _ _ _ ?_; (first | omega | (simp only [World.size_alloc, size_plus, World.size_drew, World.size_setCell] <;> omega) | (simp <;> omega))) | (refine (heap_alloc_old _ _ _ ?_).trans ?_; (first | omega | (simp only [World.size_alloc, size_plus, World.size_drew, World.size_setCell] <;> omega) | (simp <;> omega))) | (refine (heap_plus _ _ _ ?_).trans ?_; (first | omega | (simp only [World.size_alloc, size_plus, World.size_drew, World.size_setCell] <;> omega) | (simp <;> omega))) | rfl))), (by (repeat' (first | (with_reducible exact Below.refl _ _) | (with_reducible assumption) | (with_reducible refine below_plus ?_ ?_ _) | (with_reducible refine Below.alloc ?_ ?_ _) | (with_reducible refine Below.drew ?_) | (with_reducible refine below_drewN ?_ _) | (with_reducible refine Below.setCell ?_ ?_ _) | (first | omega | (simp only [World.size_alloc, size_plus, World.size_drew, World.size_setCell] <;> omega) | (simp <;> omega)) | omega | (simp; omega))) : Below w.heap.size w _).trans (hb.mono (by (first | omega | (simp only [World.size_alloc, size_plus, World.size_drew, World.size_setCell] <;> omega) | (simp <;> omega))))⟩); have d12 := row12 hv1.box; have hlB := lt_of_heap hv1.box; have HV1 := Lib.hid hv1; clear hb hv1)
      | (refine ⟨trivial, ?_⟩; gi_at_call 90; refine (callsIn_wide.2 (c_entries _ rfl _)).mono ?_; rintro e w' ⟨rfl, rfl⟩))
    clear d12 hlB
    have hW1 : CkW w (cellsR ht x (.slice A x.n cap)) 0 (V1.alloc (.cells (cellsR ht x (.slice A x.n cap)) 28)) := HV1.out.go (below_alloc _ _)
    have hsz := HV1.out.res
    have hsz := lt_of_heap hsz
    have hfp : FpOk (fpC (w.heap.size + 1)) w.heap.size w.heap.size := fpC_ok (by omega)
    apply wpIn_rangeFunc_ownG rfl (by omega) (gf := 107) (lb := #[.pointer (some ⟨V1.heap.size, 0, none⟩)]) rfl trivial (enters_of Try.func107 (by kernel_rfl) rfl)
      (ents_stops A cap ht x w (V1.alloc (.cells (cellsR ht x (.slice A x.n cap)) 28)) (fpC (w.heap.size + 1)) w.heap.size _ HR.out hW1.below (heap_alloc_new _ _) (fun e => by have : V1.heap.size = w.heap.size + 1 := e; omega) hfp (fun b e => by have : b = w.heap.size + 1 := e; simp; omega) (by simp; omega) _ (by omega)) KeepF.trans (fun W l o o' hl h hc _ => KeepF.put hfp (by omega) W l o o' (by simp at hl; omega) h hc) (Below.refl _ _) (fun _ => rfl)
      (fun pre W => (∀ i ∈ pre, badB ht x i.1 = false) ∧ CkW w (cellsR ht x (.slice A x.n cap)) 0 W)
      (fun c pre W => (c = .ret ∧ (∃ i ∈ pre, badB ht x i.1 = true)) ∧ CkW w (cellsR ht x (.slice A x.n cap)) 3 W)
      (CkW.own (by simp; omega) _) (fun c => CkW.own (by simp; omega) _) ⟨fun i hi => absurd hi (by simp), hW1⟩ _
    case hassign =>
      intro l i W K hK
      dsimp only [ixV]
      gi_wp2
      exact hK
    case hbody =>
      rintro l pre i W ⟨hp, hck⟩ _
      have hbd := each_at i.2
      have b0 : -9223372036854775808 ≤ i.1 := by omega
      have b1 : i.1 ≤ 9223372036854775807 := by omega
      have HTG : Hid (∀ tag V, Below W.heap.size W V → Calls Try.prog 29 #[.agg (cellsR ht x (.slice A x.n cap)), .int .i64 i.1, .int .i64 tag] V fun e w' => e = .returned (.bool (taggedP ht x i.1 tag)) ∧ Below V.heap.size V w') := fun tag V hV =>
        p_Tagged _ ht x i.1 tag V (HR.out.keep (below_keeps (hck.below.trans (hV.mono hck.below.size)))) b0 b1
      have HBAD : Hid (badB ht x i.1 = (decide (256 < getP ht x i.1) || (decide (getP ht x i.1 < 0) && (taggedP ht x i.1 0 || taggedP ht x i.1 1)))) := rfl
      have hP : Hid (badB ht x i.1 = false → ∀ j ∈ pre ++ [i], badB ht x j.1 = false) := fun hb j hj => (List.mem_append.1 hj).elim (hp j) (fun e => by simp at e; subst e; exact hb)
      have hmem : i ∈ pre ++ [i] := by simp
      have HMEM := Lib.hid hmem
      have d12 := row12 hck.box
      have hlB := lt_of_heap hck.box
      have rc : W.cell? ⟨w.heap.size + 1, 0, none⟩ = some (.int .i64 0) := cell_of_row _ _ _ _ _ _ hck.res
      have rf : W.frozen? ⟨w.heap.size + 1, 0, none⟩ = false := frozen_of_row _ _ _ _ _ hck.res
      have hlR := lt_of_heap hck.res
      have HCK := Lib.hid hck
      clear hp hck hbd hmem
      generalize getP ht x i.1 = v at *
      by_cases h256 : 256 < v
      · gi_wp2_with (first | (refine ⟨trivial, ?_⟩) | (rename_i h1 h2; exfalso; cases h1; done))
        exact ⟨(KeepsOthers.setCell _ _ _).from _, ⟨rfl, ⟨i, HMEM.out, by rw [HBAD.out]; simp [h256]⟩⟩, HCK.out.set 3⟩
      · by_cases h0 : v < 0
        · by_cases hy0 : taggedP ht x i.1 0 = true
          · gi_wp2_with (first | (refine ⟨trivial, ?_⟩; gi_at_call 29; refine (CallsIn.inRound l (callsIn_wide.2 (HTG.out _ _ (Below.refl _ _)))).mono ?_; rintro e W2 ⟨rfl, hb2⟩; (have hck2 := HCK.out.go hb2); (have rc2 : W2.cell? ⟨w.heap.size + 1, 0, none⟩ = some (.int .i64 0) := cell_of_row _ _ _ _ _ _ hck2.res); (have rf2 : W2.frozen? ⟨w.heap.size + 1, 0, none⟩ = false := frozen_of_row _ _ _ _ _ hck2.res); have dd2 := row12 hck2.box; have hl2 := lt_of_heap hck2.box; have HCK2 := Lib.hid hck2; have HB2 := Lib.hid hb2; clear hck2 hb2) | (refine ⟨trivial, ?_⟩) | (rename_i h1 h2; exfalso; cases h1; done))
            exact ⟨(keepsFrom_below HB2.out).trans ((KeepsOthers.setCell _ _ _).from _), ⟨rfl, ⟨i, HMEM.out, by rw [HBAD.out]; simp [h0, hy0]⟩⟩, HCK2.out.set 3⟩
          · have hy0' : taggedP ht x i.1 0 = false := by simpa using hy0
            by_cases hy1 : taggedP ht x i.1 1 = true
            · gi_wp2_with (first | (refine ⟨trivial, ?_⟩; gi_at_call 29; refine (CallsIn.inRound l (callsIn_wide.2 (HTG.out _ _ (Below.refl _ _)))).mono ?_; rintro e W2 ⟨rfl, hb2⟩; (have hck2 := HCK.out.go hb2); (have rc2 : W2.cell? ⟨w.heap.size + 1, 0, none⟩ = some (.int .i64 0) := cell_of_row _ _ _ _ _ _ hck2.res); (have rf2 : W2.frozen? ⟨w.heap.size + 1, 0, none⟩ = false := frozen_of_row _ _ _ _ _ hck2.res); have dd2 := row12 hck2.box; have hl2 := lt_of_heap hck2.box; have HCK2 := Lib.hid hck2; have HB2 := Lib.hid hb2; clear hck2 hb2) | (refine ⟨trivial, ?_⟩; gi_at_call 29; refine (CallsIn.inRound l (callsIn_wide.2 (HTG.out _ _ HB2.out))).mono ?_; rintro e W3 ⟨rfl, hb3⟩; (have hck3 := HCK2.out.go hb3); (have rc3 : W3.cell? ⟨w.heap.size + 1, 0, none⟩ = some (.int .i64 0) := cell_of_row _ _ _ _ _ _ hck3.res); (have rf3 : W3.frozen? ⟨w.heap.size + 1, 0, none⟩ = false := frozen_of_row _ _ _ _ _ hck3.res); have dd3 := row12 hck3.box; have hl3 := lt_of_heap hck3.box; have HCK3 := Lib.hid hck3; have HB3 := Lib.hid hb3; clear hck3 hb3) | (refine ⟨trivial, ?_⟩) | (rename_i h1 h2; exfalso; cases h1; done))
              exact ⟨((keepsFrom_below HB2.out).trans (keepsFrom_below HB3.out)).trans ((KeepsOthers.setCell _ _ _).from _), ⟨rfl, ⟨i, HMEM.out, by rw [HBAD.out]; simp [h0, hy1]⟩⟩, HCK3.out.set 3⟩
            · have hy1' : taggedP ht x i.1 1 = false := by simpa using hy1
              gi_wp2_with (first | (refine ⟨trivial, ?_⟩; gi_at_call 29; refine (CallsIn.inRound l (callsIn_wide.2 (HTG.out _ _ (Below.refl _ _)))).mono ?_; rintro e W2 ⟨rfl, hb2⟩; (have hck2 := HCK.out.go hb2); (have rc2 : W2.cell? ⟨w.heap.size + 1, 0, none⟩ = some (.int .i64 0) := cell_of_row _ _ _ _ _ _ hck2.res); (have rf2 : W2.frozen? ⟨w.heap.size + 1, 0, none⟩ = false := frozen_of_row _ _ _ _ _ hck2.res); have dd2 := row12 hck2.box; have hl2 := lt_of_heap hck2.box; have HCK2 := Lib.hid hck2; have HB2 := Lib.hid hb2; clear hck2 hb2) | (refine ⟨trivial, ?_⟩; gi_at_call 29; refine (CallsIn.inRound l (callsIn_wide.2 (HTG.out _ _ HB2.out))).mono ?_; rintro e W3 ⟨rfl, hb3⟩; (have hck3 := HCK2.out.go hb3); (have rc3 : W3.cell? ⟨w.heap.size + 1, 0, none⟩ = some (.int .i64 0) := cell_of_row _ _ _ _ _ _ hck3.res); (have rf3 : W3.frozen? ⟨w.heap.size + 1, 0, none⟩ = false := frozen_of_row _ _ _ _ _ hck3.res); have dd3 := row12 hck3.box; have hl3 := lt_of_heap hck3.box; have HCK3 := Lib.hid hck3; have HB3 := Lib.hid hb3; clear hck3 hb3) | (refine ⟨trivial, ?_⟩) | (rename_i h1 h2; exfalso; cases h1; done))
              exact ⟨(keepsFrom_below HB2.out).trans (keepsFrom_below HB3.out), (KeepF.of_below hfp HCK.out.below.size HCK.out.below.size HB2.out).trans (KeepF.of_below hfp HCK2.out.below.size HCK2.out.below.size HB3.out), hP.out (by rw [HBAD.out]; simp [h256, hy0', hy1']), HCK3.out⟩
        · have hgood : Hid (badB ht x i.1 = false) := by rw [Hid, HBAD.out]; simp [h256, h0]
          gi_wp2_with (first | (refine ⟨trivial, ?_⟩) | (rename_i h1 h2; exfalso; cases h1; done))
          exact ⟨KeepsFrom.refl _ _, KeepF.refl _ _ _, fun a b h => hP.out hgood.out ⟨a, b⟩ h, HCK.out⟩
    case hstop =>
      rintro D c pre W hD hpre ⟨⟨rfl, i, hi, hib⟩, hck⟩ hK
      have HIB := Lib.hid hib
      have HCK := Lib.hid hck
      clear hib hck hpre
      gi_wp2
      refine ⟨by simp, .inl ⟨_, _, rfl, run_takeDeferred hK, ?_⟩⟩
      have hc5 := cell_kept (cell_of_row _ _ _ _ _ _ HCK.out.res : W.cell? ⟨w.heap.size + 1, 0, none⟩ = some (.int .i64 3)) (grownBy_putObj' _ D (.deferred none)) (fun r e => by cases e; exact ⟨_, hK, rfl⟩)
      refine ⟨.int .i64 3, ?_, ?_, HCK.out.below.trans (belowK_b (w := w) (Nat.le_refl _) W D _ _ (by simp at hD; omega) hK rfl rfl)⟩
      · simp [results, Try.f41, go_sem, hc5]
      · have : (eachL ht x (-1)).any (badB ht x) = true := List.any_eq_true.2 ⟨i.1, i.2, HIB.out⟩
        rw [hf.out, if_pos this]
    case hdone =>
      rintro D ys W hD hys ⟨hne, hck⟩ hK
      have hany : (eachL ht x (-1)).any (badB ht x) = false := any_no _ _ fun j hj => by
        rw [← hys] at hj
        obtain ⟨i, hi, rfl⟩ := List.mem_map.1 hj
        exact hne i hi
      rw [hany, if_neg (by decide)] at hf
      have HK := Lib.hid hK
      have hsD : V1.heap.size + 1 ≤ D := by simpa using hD
      have hlD := lt_of_heap hK
      have hwD : w.heap.size + 1 < D := by omega
      have d12 := row12 hck.box
      have hlB := lt_of_heap hck.box
      have HCK := Lib.hid hck
      have hmm := @run_makeMap Try.prog
      clear hne hys hany hck hW1 hfp hsz HV1 hD hK
      gi_wp2_with (refine ⟨trivial, ?_⟩; gi_at_call 90; refine (callsIn_wide.2 (c_entries _ rfl _)).mono ?_; rintro e w' ⟨rfl, rfl⟩)
      have hs0 := HCK.out.res
      have hs0 := lt_of_heap hs0
      have hm0 := World.ownsMap_made (H := Unit) W Try.prog 3 (plainElem Try.prog 4)
      generalize hW3 : World.alloc (World.alloc (World.alloc W _) _) _ = W3
      have hB3 : Below W.heap.size W W3 := by rw [← hW3]; exact ((below_alloc _ _).alloc (by simp) _).alloc (by simp; omega) _
      have hz3 : W3.heap.size = W.heap.size + 3 := by rw [← hW3]; simp
      have hm3 : seenM W3 W.heap.size 0 [] := ⟨.map [], by rw [← hW3]; exact (hm0.alloc _).alloc _, ⟨[], rfl⟩, fun v => rfl⟩
      have hq3 : W3.heap[W.heap.size + 1]? = some (.cells #[.map (some W.heap.size)] 95 (0, 0)) := by rw [← hW3]; (repeat' (first | (refine heap_alloc_here _ _ _ ?_; (first | omega | (simp only [World.size_alloc, size_plus, World.size_drew, World.size_setCell] <;> omega) | (simp <;> omega))) | (refine (heap_alloc_old _ _ _ ?_).trans ?_; (first | omega | (simp only [World.size_alloc, size_plus, World.size_drew, World.size_setCell] <;> omega) | (simp <;> omega))) | (refine (heap_plus _ _ _ ?_).trans ?_; (first | omega | (simp only [World.size_alloc, size_plus, World.size_drew, World.size_setCell] <;> omega) | (simp <;> omega))) | rfl))
      have hb3 : W3.heap[W.heap.size + 1 + 1]? = some (.cells (cellsR ht x (.slice A x.n cap)) 28 (0, 0)) := by rw [← hW3]; (repeat' (first | (refine heap_alloc_here _ _ _ ?_; (first | omega | (simp only [World.size_alloc, size_plus, World.size_drew, World.size_setCell] <;> omega) | (simp <;> omega))) | (refine (heap_alloc_old _ _ _ ?_).trans ?_; (first | omega | (simp only [World.size_alloc, size_plus, World.size_drew, World.size_setCell] <;> omega) | (simp <;> omega))) | (refine (heap_plus _ _ _ ?_).trans ?_; (first | omega | (simp only [World.size_alloc, size_plus, World.size_drew, World.size_setCell] <;> omega) | (simp <;> omega))) | rfl))
      have hck3 := HCK.out.go hB3
      have hD3 : W3.heap[D]? = some (.deferred (some [])) := (hB3.block D hlD).trans HK.out
      have hfp : FpOk (fpC (w.heap.size + 1)) w.heap.size w.heap.size := fpC_ok (by omega)
      have hw3 := hck3.below.size
      clear hW3 hm0 hB3 d12 hlB
      apply wpIn_rangeFunc_ownG rfl (by omega) (gf := 107) (lb := #[.pointer (some ⟨W.heap.size + 1 + 1, 0, none⟩)]) rfl trivial (enters_of Try.func107 (by kernel_rfl) rfl)
        (ents_stops A cap ht x w W3 (fpC (w.heap.size + 1)) w.heap.size _ HR.out hck3.below hb3 (fun e => by have : W.heap.size + 1 + 1 = w.heap.size + 1 := e; omega) hfp (fun b e => by have : b = w.heap.size + 1 := e; omega) hw3 _ (by omega)) KeepF.trans (fun V l o o' hl h hc _ => KeepF.put hfp (by omega) V l o o' (by omega) h hc) (Below.refl _ _) (fun _ => rfl)
        (fun pre V => (dupL (valsL pre) = false ∧ CkW w (cellsR ht x (.slice A x.n cap)) 0 V) ∧ V.heap[D]? = some (.deferred (some [])) ∧ V.heap[W.heap.size + 1]? = some (.cells #[.map (some W.heap.size)] 95 (0, 0)) ∧ seenM V W.heap.size pre.length (valsL pre))
        (fun c pre V => ((c = .ret ∧ dupL (valsL pre) = true) ∧ CkW w (cellsR ht x (.slice A x.n cap)) 7 V) ∧ V.heap[D]? = some (.deferred (some [])))
        (OwnFrom.and (CkW.own (by omega) _) (fun s V V' rw hs hg hr => ⟨(hg.block D (lt_of_heap hs.1) (fun e => by have := (hr D e.symm).1; omega)).trans hs.1, heap_kept hs.2.1 hg (fun r e => (hr r e).2), by
          obtain ⟨Dm, h1, h2, h3⟩ := hs.2.2
          exact ⟨Dm, h1.kept hg (fun e => by have := (hr _ e.symm).1; omega), h2, h3⟩⟩))
        (fun c => OwnFrom.and (CkW.own (by omega) _) (fun s V V' rw hs hg hr => (hg.block D (lt_of_heap hs) (fun e => by have := (hr D e.symm).1; omega)).trans hs))
        ⟨⟨rfl, hck3⟩, hD3, hq3, hm3⟩ _
      case hassign =>
        intro l i W K hK
        dsimp only [ixV]
        gi_wp2
        exact hK
      case hbody =>
        rintro l pre i V ⟨⟨hdup, hck⟩, hD, hq, Dm, hown, hism, hat⟩ hlt
        have hvb := HV.out i.1
        have hwf : (Lit.int .i64 (getP ht x i.1)).wf = true := by
          simp only [Lit.wf, Bool.and_eq_true, decide_eq_true_eq]
          rw [show IntKind.min .i64 = -9223372036854775808 by decide, show IntKind.max .i64 = 9223372036854775807 by decide]
          exact hvb
        have hkey := Maps.keyOf_int_mk Try.underlying3 hwf
        have hlen : pre.length < maxLen := by have := len_each ht x; unfold maxLen; omega
        obtain ⟨v', ps, hrun, hv'⟩ := hown.lookup (Maps.int_keyed Try.underlying3) Try.underlying95 (Try.zeroValue4 V) (plainElem_bool Try.underlying4 false) hkey
        rw [hat] at hv'
        obtain ⟨y, rfl, hy⟩ := plainElem_bool_inv Try.underlying4 hv'
        injection hy with hy _
        injection hy with hy
        injection hy with hy
        subst hy
        obtain ⟨es, ck, hmap, -⟩ := id hown
        have hmc := vals_snoc pre i
        have rq : V.cell? ⟨W.heap.size + 1, 0, none⟩ = some (.map (some W.heap.size)) := cell_of_row _ _ _ _ _ _ hq
        have rc : V.cell? ⟨w.heap.size + 1, 0, none⟩ = some (.int .i64 0) := cell_of_row _ _ _ _ _ _ hck.res
        have rf : V.frozen? ⟨w.heap.size + 1, 0, none⟩ = false := frozen_of_row _ _ _ _ _ hck.res
        have HOWN := Lib.hid hown
        have HMAP := Lib.hid hmap
        have HCK := Lib.hid hck
        have HD := Lib.hid hD
        have HQ := Lib.hid hq
        have HNEW : Hid ((decide (0 < getP ht x i.1) && (valsL pre).contains (getP ht x i.1)) = false → dupL (valsL (pre ++ [i])) = false) := fun h => by rw [hmc, dup_snoc, hdup, h]; rfl
        have HOLD : Hid ((decide (0 < getP ht x i.1) && (valsL pre).contains (getP ht x i.1)) = true → dupL (valsL (pre ++ [i])) = true) := fun h => by rw [hmc, dup_snoc, hdup, h]; rfl
        have HSEEN : Hid (∀ w1, w1.ownsMap Try.prog 3 (plainElem Try.prog 4) W.heap.size (pre.length + 1) (Dm.put (.int .i64 (getP ht x i.1)) (.lit (.bool true))) → seenM w1 W.heap.size (pre ++ [i]).length (valsL (pre ++ [i]))) := fun w1 h1 => by
          refine ⟨_, by rw [List.length_append]; exact h1, hism.put _ _, fun u => ?_⟩
          rw [hmc]
          by_cases hu : u = getP ht x i.1
          · subst hu
            rw [Maps.atKey_put_same hism (show WideAt.IsKeyLit (.int .i64 (getP ht x i.1)) from trivial)]
            simp
          · rw [Maps.atKey_put_other (by intro e; injection e with _ e; exact hu e), hat]
            have : (valsL pre ++ [getP ht x i.1]).contains u = (valsL pre).contains u := by
              rw [List.contains_eq_any_beq, List.any_append, ← List.contains_eq_any_beq]
              simp [hu]
            rw [this]
        clear hown hmap hck hD hq hmc hv' hat hism hdup hwf hvb
        generalize hcc : (valsL pre).contains (getP ht x i.1) = cc at *
        clear hcc
        by_cases h0 : 0 < getP ht x i.1
        · cases cc
          · have HB : (decide (0 < getP ht x i.1) && false) = false := by simp
            gi_wp2_with (first | (gi_at_mapUpdate; refine wpListIn_mapUpdate_own _ rfl _ _ _ 95 rfl 3 4 (Maps.int_keyed Try.underlying3) Try.underlying95 _ W.heap.size pre.length _ rfl HOWN.out hlen _ _ _ rfl rfl hkey _ [] (plainElem_bool Try.underlying4 true) ?_; intro w1 hown1 hgrow1) | (refine ⟨trivial, ?_⟩) | (rename_i h1 h2; exfalso; cases h1; done))
            exact ⟨KeepsFrom.of_grownBy hgrow1 (fun j e => by cases e; omega), KeepF.grown hgrow1 HMAP.out rfl (by omega) HCK.out.below.size, ⟨HNEW.out HB, HCK.out.grown hgrow1 HMAP.out rfl (by omega)⟩, (hgrow1.block D (lt_of_heap HD.out) (fun e => by cases e; omega)).trans HD.out, heap_kept HQ.out hgrow1 (fun r e => by cases e; exact ⟨_, HMAP.out, rfl⟩), HSEEN.out _ hown1⟩
          · have HB : (decide (0 < getP ht x i.1) && true) = true := by simp [h0]
            have HBB := Lib.hid (HOLD.out HB)
            clear HB
            gi_wp2_with (first | (refine ⟨trivial, ?_⟩) | (rename_i h1 h2; exfalso; cases h1; done))
            exact ⟨(KeepsOthers.setCell _ _ _).from _, ⟨⟨rfl, HBB.out⟩, HCK.out.set 7⟩, (heap_setCell_other _ _ _ _ (by show D ≠ w.heap.size + 1; omega)).trans HD.out⟩
        · have HB : (decide (0 < getP ht x i.1) && cc) = false := by simp [h0]
          have HB := Lib.hid HB
          gi_wp2_with (first | (gi_at_mapUpdate; refine wpListIn_mapUpdate_own _ rfl _ _ _ 95 rfl 3 4 (Maps.int_keyed Try.underlying3) Try.underlying95 _ W.heap.size pre.length _ rfl HOWN.out hlen _ _ _ rfl rfl hkey _ [] (plainElem_bool Try.underlying4 true) ?_; intro w1 hown1 hgrow1) | (refine ⟨trivial, ?_⟩) | (rename_i h1 h2; exfalso; cases h1; done))
          exact ⟨KeepsFrom.of_grownBy hgrow1 (fun j e => by cases e; omega), KeepF.grown hgrow1 HMAP.out rfl (by omega) HCK.out.below.size, ⟨HNEW.out HB.out, HCK.out.grown hgrow1 HMAP.out rfl (by omega)⟩, (hgrow1.block D (lt_of_heap HD.out) (fun e => by cases e; omega)).trans HD.out, heap_kept HQ.out hgrow1 (fun r e => by cases e; exact ⟨_, HMAP.out, rfl⟩), HSEEN.out _ hown1⟩
      case hdone =>
        rintro D2 ys V hD2 hys ⟨⟨hdup, hck⟩, hD, -, -⟩ hK2
        have hval : fcP ht x = 0 := by rw [hf.out, ← vals_of hys, hdup]; rfl
        have rc : V.cell? ⟨w.heap.size + 1, 0, none⟩ = some (.int .i64 0) := cell_of_row _ _ _ _ _ _ hck.res
        have rf : V.frozen? ⟨w.heap.size + 1, 0, none⟩ = false := frozen_of_row _ _ _ _ _ hck.res
        have HVAL := Lib.hid hval
        have HK2 := Lib.hid ((KeepsOthers.setCell V ⟨w.heap.size + 1, 0, none⟩ (.int .i64 0)).same D2 _ hK2 rfl)
        have HD := Lib.hid ((KeepsOthers.setCell V ⟨w.heap.size + 1, 0, none⟩ (.int .i64 0)).same D _ hD rfl)
        have HC := Lib.hid (hck.set 0)
        clear hdup hck hD hK2 hys hval
        gi_wp2
        refine ⟨by simp, .inl ⟨_, _, rfl, run_takeDeferred HK2.out, ?_⟩⟩
        have hD2' := ((grownBy_putObj' _ D2 (.deferred none)).block D (lt_of_heap HD.out) (fun e => by cases e; omega)).trans HD.out
        refine ⟨by simp, .inl ⟨_, _, rfl, run_takeDeferred hD2', ?_⟩⟩
        have hr1 := heap_kept HC.out.res (grownBy_putObj' _ D2 (.deferred none)) (fun r e => by cases e; exact ⟨_, HK2.out, rfl⟩)
        have hc5 := cell_of_row _ _ 0 _ _ _ (heap_kept hr1 (grownBy_putObj' _ D (.deferred none)) (fun r e => by cases e; exact ⟨_, hD2', rfl⟩))
        refine ⟨.int .i64 0, ?_, by rw [HVAL.out], (HC.out.below.trans (belowK_b (w := w) (Nat.le_refl _) _ D2 _ _ (by omega) HK2.out rfl rfl)).trans (belowK_b (w := w) (Nat.le_refl _) _ D _ _ (by omega) hD2' rfl rfl)⟩
        simp [results, Try.f41, go_sem, hc5]
      case hstop =>
        rintro D2 c pre V hD2 ⟨suf, hpre⟩ ⟨⟨⟨rfl, hdup⟩, hck⟩, hD⟩ hK2
        have hval : fcP ht x = 7 := by
          rw [hf.out, ← hpre, List.map_append, ← vals_of (rfl : pre.map (fun i => i.1) = _), if_pos (dup_append _ _ hdup)]
        have HVAL := Lib.hid hval
        have HK2 := Lib.hid hK2
        have HD := Lib.hid hD
        have HC := Lib.hid hck
        clear hdup hck hD hK2 hpre hval
        gi_wp2
        refine ⟨by simp, .inl ⟨_, _, rfl, run_takeDeferred HK2.out, ?_⟩⟩
        have hD2' := ((grownBy_putObj' _ D2 (.deferred none)).block D (lt_of_heap HD.out) (fun e => by cases e; omega)).trans HD.out
        refine ⟨by simp, .inl ⟨_, _, rfl, run_takeDeferred hD2', ?_⟩⟩
        have hr1 := heap_kept HC.out.res (grownBy_putObj' _ D2 (.deferred none)) (fun r e => by cases e; exact ⟨_, HK2.out, rfl⟩)
        have hc5 := cell_of_row _ _ 0 _ _ _ (heap_kept hr1 (grownBy_putObj' _ D (.deferred none)) (fun r e => by cases e; exact ⟨_, hD2', rfl⟩))
        refine ⟨.int .i64 7, ?_, by rw [HVAL.out], (HC.out.below.trans (belowK_b (w := w) (Nat.le_refl _) _ D2 _ _ (by omega) HK2.out rfl rfl)).trans (belowK_b (w := w) (Nat.le_refl _) _ D _ _ (by omega) hD2' rfl rfl)⟩
        simp [results, Try.f41, go_sem, hc5]
end Go.Proofs.Ytcicfijpfhbcaaa
namespace Go.Proofs.Ytcicfijpfhbcaaa
set_option linter.unusedSimpArgs false
set_option linter.unusedVariables false
set_option linter.unusedSectionVars false
open Go.RowKit

/-- What check answers. -/
def fcI (ht : Int) (x : RN) (i : Int) : Int := if fcP ht x ≠ 0 then fcP ht x else if i < 0 ∨ 1073741824 ≤ i then 2 else 0
/-- What frame answers. -/
def frP (ht : Int) (x : RN) (i : Int) : Int := if 0 < getP ht x i then getP ht x i - 1 else -1
def frameP (ht : Int) (x : RN) (i : Int) : Int := if fcI ht x i ≠ 0 then -1 else frP ht x i
def shadowP (ht : Int) (x : RN) (i : Int) : Int := if fcI ht x i ≠ 0 then -1 else if getP ht x i < 0 then -1 - getP ht x i else -1
def dirtyP (ht : Int) (x : RN) (frm : Int) : Int := if fcP ht x ≠ 0 then -1 else nextP ht x frm 0
theorem fcP_rng (ht : Int) (x : RN) : fcP ht x = checkP ht x ∨ fcP ht x = 3 ∨ fcP ht x = 7 ∨ fcP ht x = 0 := by
  unfold fcP
  repeat' split
  all_goals simp

set_option maxRecDepth 100000 in
set_option maxHeartbeats 1000000 in
theorem c_check (cs : Array Value) (ht : Int) (x : RN) (i : Int) (w : World) (hr : RdVals w cs 12 (encR ht x)) (hv : vOk ht x) :
    Calls Try.prog 91 #[.agg cs, .int .i64 i] w fun e w' => e = .returned (.int .i64 (fcI ht x i)) ∧ Below w.heap.size w w' := by
  obtain ⟨A, cap, rfl, hk⟩ := rdR_open hr
  have HR := Lib.hid hr
  have HV := Lib.hid hv
  clear hr hk hv
  by_cases hc : fcP ht x ≠ 0
  · have hf : Hid (fcI ht x i = fcP ht x) := if_pos hc
    have hcb : (fcP ht x != 0) = true := by simp [hc]
    clear hc
    go_enter Try.func91, Try.ntmps91
    go_wp2_with (go_at_call 41; refine (c_Check _ ht x _ ?_ HV.out).mono ?_; exact HR.out.keep (below_keeps (by (repeat' (first | (with_reducible exact Below.refl _ _) | (with_reducible assumption) | (with_reducible refine below_plus ?_ ?_ _) | (with_reducible refine Below.alloc ?_ ?_ _) | (with_reducible refine Below.drew ?_) | (with_reducible refine below_drewN ?_ _) | (with_reducible refine Below.setCell ?_ ?_ _) | (first | omega | (simp only [World.size_alloc, size_plus, World.size_drew, World.size_setCell] <;> omega) | (simp <;> omega)) | omega | (simp; omega))))); rintro e w' ⟨rfl, hb⟩; (first | (obtain ⟨X, rfl⟩ := plus_again hb) | (obtain ⟨X, rfl⟩ := plus_of_below hb)); clear hb)
    go_ret
    exact ⟨by rw [hf.out]; rfl, by (repeat' (first | (with_reducible exact Below.refl _ _) | (with_reducible assumption) | (with_reducible refine below_plus ?_ ?_ _) | (with_reducible refine Below.alloc ?_ ?_ _) | (with_reducible refine Below.drew ?_) | (with_reducible refine below_drewN ?_ _) | (with_reducible refine Below.setCell ?_ ?_ _) | (first | omega | (simp only [World.size_alloc, size_plus, World.size_drew, World.size_setCell] <;> omega) | (simp <;> omega)) | omega | (simp; omega)))⟩
  · have hcb : (fcP ht x != 0) = false := by simpa using hc
    have hf : Hid (fcI ht x i = if i < 0 ∨ 1073741824 ≤ i then 2 else 0) := if_neg hc
    clear hc
    by_cases h0 : i < 0
    · have hf2 : Hid (fcI ht x i = 2) := by rw [Hid, hf.out, if_pos (.inl h0)]
      go_enter Try.func91, Try.ntmps91
      go_wp2_with (go_at_call 41; refine (c_Check _ ht x _ ?_ HV.out).mono ?_; exact HR.out.keep (below_keeps (by (repeat' (first | (with_reducible exact Below.refl _ _) | (with_reducible assumption) | (with_reducible refine below_plus ?_ ?_ _) | (with_reducible refine Below.alloc ?_ ?_ _) | (with_reducible refine Below.drew ?_) | (with_reducible refine below_drewN ?_ _) | (with_reducible refine Below.setCell ?_ ?_ _) | (first | omega | (simp only [World.size_alloc, size_plus, World.size_drew, World.size_setCell] <;> omega) | (simp <;> omega)) | omega | (simp; omega))))); rintro e w' ⟨rfl, hb⟩; (first | (obtain ⟨X, rfl⟩ := plus_again hb) | (obtain ⟨X, rfl⟩ := plus_of_below hb)); clear hb)
      go_ret
      exact ⟨by rw [hf2.out]; rfl, by (repeat' (first | (with_reducible exact Below.refl _ _) | (with_reducible assumption) | (with_reducible refine below_plus ?_ ?_ _) | (with_reducible refine Below.alloc ?_ ?_ _) | (with_reducible refine Below.drew ?_) | (with_reducible refine below_drewN ?_ _) | (with_reducible refine Below.setCell ?_ ?_ _) | (first | omega | (simp only [World.size_alloc, size_plus, World.size_drew, World.size_setCell] <;> omega) | (simp <;> omega)) | omega | (simp; omega)))⟩
    · by_cases h1 : 1073741824 ≤ i
      · have hf2 : Hid (fcI ht x i = 2) := by rw [Hid, hf.out, if_pos (.inr h1)]
        go_enter Try.func91, Try.ntmps91
        go_wp2_with (go_at_call 41; refine (c_Check _ ht x _ ?_ HV.out).mono ?_; exact HR.out.keep (below_keeps (by (repeat' (first | (with_reducible exact Below.refl _ _) | (with_reducible assumption) | (with_reducible refine below_plus ?_ ?_ _) | (with_reducible refine Below.alloc ?_ ?_ _) | (with_reducible refine Below.drew ?_) | (with_reducible refine below_drewN ?_ _) | (with_reducible refine Below.setCell ?_ ?_ _) | (first | omega | (simp only [World.size_alloc, size_plus, World.size_drew, World.size_setCell] <;> omega) | (simp <;> omega)) | omega | (simp; omega))))); rintro e w' ⟨rfl, hb⟩; (first | (obtain ⟨X, rfl⟩ := plus_again hb) | (obtain ⟨X, rfl⟩ := plus_of_below hb)); clear hb)
        go_ret
        exact ⟨by rw [hf2.out]; rfl, by (repeat' (first | (with_reducible exact Below.refl _ _) | (with_reducible assumption) | (with_reducible refine below_plus ?_ ?_ _) | (with_reducible refine Below.alloc ?_ ?_ _) | (with_reducible refine Below.drew ?_) | (with_reducible refine below_drewN ?_ _) | (with_reducible refine Below.setCell ?_ ?_ _) | (first | omega | (simp only [World.size_alloc, size_plus, World.size_drew, World.size_setCell] <;> omega) | (simp <;> omega)) | omega | (simp; omega)))⟩
      · have hf2 : Hid (fcI ht x i = 0) := by rw [Hid, hf.out, if_neg (by omega)]
        go_enter Try.func91, Try.ntmps91
        go_wp2_with (go_at_call 41; refine (c_Check _ ht x _ ?_ HV.out).mono ?_; exact HR.out.keep (below_keeps (by (repeat' (first | (with_reducible exact Below.refl _ _) | (with_reducible assumption) | (with_reducible refine below_plus ?_ ?_ _) | (with_reducible refine Below.alloc ?_ ?_ _) | (with_reducible refine Below.drew ?_) | (with_reducible refine below_drewN ?_ _) | (with_reducible refine Below.setCell ?_ ?_ _) | (first | omega | (simp only [World.size_alloc, size_plus, World.size_drew, World.size_setCell] <;> omega) | (simp <;> omega)) | omega | (simp; omega))))); rintro e w' ⟨rfl, hb⟩; (first | (obtain ⟨X, rfl⟩ := plus_again hb) | (obtain ⟨X, rfl⟩ := plus_of_below hb)); clear hb)
        go_ret
        exact ⟨by rw [hf2.out]; rfl, by (repeat' (first | (with_reducible exact Below.refl _ _) | (with_reducible assumption) | (with_reducible refine below_plus ?_ ?_ _) | (with_reducible refine Below.alloc ?_ ?_ _) | (with_reducible refine Below.drew ?_) | (with_reducible refine below_drewN ?_ _) | (with_reducible refine Below.setCell ?_ ?_ _) | (first | omega | (simp only [World.size_alloc, size_plus, World.size_drew, World.size_setCell] <;> omega) | (simp <;> omega)) | omega | (simp; omega)))⟩

set_option maxRecDepth 100000 in
set_option maxHeartbeats 1000000 in
theorem c_frame (cs : Array Value) (ht : Int) (x : RN) (i : Int) (w : World) (hr : RdVals w cs 12 (encR ht x)) (hv : vOk ht x) (i2 : -9223372036854775808 ≤ i) (i3 : i ≤ 9223372036854775807) :
    Calls Try.prog 94 #[.agg cs, .int .i64 i] w fun e w' => e = .returned (.int .i64 (frP ht x i)) ∧ Below w.heap.size w w' := by
  obtain ⟨A, cap, rfl, hk⟩ := rdR_open hr
  have HR := Lib.hid hr
  have hb := hv i
  have HG : Hid (∀ cs W, RdVals W cs 12 (encR ht x) → Calls Try.prog 26 #[.agg cs, .int .i64 i] W fun e w' => e = .returned (.int .i64 (getP ht x i)) ∧ Below W.heap.size W w') := fun cs W h => p_Get cs ht x i W h i2 i3
  have hf : Hid (frP ht x i = if 0 < getP ht x i then getP ht x i - 1 else -1) := rfl
  clear hr hk hv
  generalize getP ht x i = v at *
  by_cases h0 : 0 < v
  · rw [if_pos h0] at hf
    go_enter Try.func94, Try.ntmps94
    go_wp2_with (go_at_call 26; refine (HG.out _ _ ?_).mono ?_; exact HR.out.keep (below_keeps (by (repeat' (first | (with_reducible exact Below.refl _ _) | (with_reducible assumption) | (with_reducible refine below_plus ?_ ?_ _) | (with_reducible refine Below.alloc ?_ ?_ _) | (with_reducible refine Below.drew ?_) | (with_reducible refine below_drewN ?_ _) | (with_reducible refine Below.setCell ?_ ?_ _) | (first | omega | (simp only [World.size_alloc, size_plus, World.size_drew, World.size_setCell] <;> omega) | (simp <;> omega)) | omega | (simp; omega))))); rintro e w' ⟨rfl, hb⟩; (first | (obtain ⟨X, rfl⟩ := plus_again hb) | (obtain ⟨X, rfl⟩ := plus_of_below hb)); clear hb)
    go_ret
    exact ⟨by rw [hf.out]; rfl, by (repeat' (first | (with_reducible exact Below.refl _ _) | (with_reducible assumption) | (with_reducible refine below_plus ?_ ?_ _) | (with_reducible refine Below.alloc ?_ ?_ _) | (with_reducible refine Below.drew ?_) | (with_reducible refine below_drewN ?_ _) | (with_reducible refine Below.setCell ?_ ?_ _) | (first | omega | (simp only [World.size_alloc, size_plus, World.size_drew, World.size_setCell] <;> omega) | (simp <;> omega)) | omega | (simp; omega)))⟩
  · rw [if_neg h0] at hf
    go_enter Try.func94, Try.ntmps94
    go_wp2_with (go_at_call 26; refine (HG.out _ _ ?_).mono ?_; exact HR.out.keep (below_keeps (by (repeat' (first | (with_reducible exact Below.refl _ _) | (with_reducible assumption) | (with_reducible refine below_plus ?_ ?_ _) | (with_reducible refine Below.alloc ?_ ?_ _) | (with_reducible refine Below.drew ?_) | (with_reducible refine below_drewN ?_ _) | (with_reducible refine Below.setCell ?_ ?_ _) | (first | omega | (simp only [World.size_alloc, size_plus, World.size_drew, World.size_setCell] <;> omega) | (simp <;> omega)) | omega | (simp; omega))))); rintro e w' ⟨rfl, hb⟩; (first | (obtain ⟨X, rfl⟩ := plus_again hb) | (obtain ⟨X, rfl⟩ := plus_of_below hb)); clear hb)
    go_ret
    exact ⟨by rw [hf.out]; rfl, by (repeat' (first | (with_reducible exact Below.refl _ _) | (with_reducible assumption) | (with_reducible refine below_plus ?_ ?_ _) | (with_reducible refine Below.alloc ?_ ?_ _) | (with_reducible refine Below.drew ?_) | (with_reducible refine below_drewN ?_ _) | (with_reducible refine Below.setCell ?_ ?_ _) | (first | omega | (simp only [World.size_alloc, size_plus, World.size_drew, World.size_setCell] <;> omega) | (simp <;> omega)) | omega | (simp; omega)))⟩

set_option maxRecDepth 100000 in
set_option maxHeartbeats 1000000 in
theorem c_Frame (cs : Array Value) (ht : Int) (x : RN) (i : Int) (w : World) (hr : RdVals w cs 12 (encR ht x)) (hv : vOk ht x) (i2 : -9223372036854775808 ≤ i) (i3 : i ≤ 9223372036854775807) :
    Calls Try.prog 43 #[.agg cs, .int .i64 i] w fun e w' => e = .returned (.int .i64 (frameP ht x i)) ∧ Below w.heap.size w w' := by
  obtain ⟨A, cap, rfl, hk⟩ := rdR_open hr
  have HR := Lib.hid hr
  have hb := hv i
  have HG : Hid (∀ cs W, RdVals W cs 12 (encR ht x) → Calls Try.prog 26 #[.agg cs, .int .i64 i] W fun e w' => e = .returned (.int .i64 (getP ht x i)) ∧ Below W.heap.size W w') := fun cs W h => p_Get cs ht x i W h i2 i3
  have HC : Hid (∀ cs W, RdVals W cs 12 (encR ht x) → Calls Try.prog 91 #[.agg cs, .int .i64 i] W fun e w' => e = .returned (.int .i64 (fcI ht x i)) ∧ Below W.heap.size W w') := fun cs W h => c_check cs ht x i W h hv
  have hf : Hid (frameP ht x i = if fcI ht x i ≠ 0 then -1 else if 0 < getP ht x i then getP ht x i - 1 else -1) := rfl
  clear hr hk hv
  generalize fcI ht x i = ci at *
  generalize getP ht x i = v at *
  by_cases hc : ci ≠ 0
  · rw [if_pos hc] at hf
    have hcb : (ci != 0) = true := by simp [hc]
    clear hc
    go_enter Try.func43, Try.ntmps43
    go_wp2_with (go_at_call 91; refine (HC.out _ _ ?_).mono ?_; exact HR.out.keep (below_keeps (by (repeat' (first | (with_reducible exact Below.refl _ _) | (with_reducible assumption) | (with_reducible refine below_plus ?_ ?_ _) | (with_reducible refine Below.alloc ?_ ?_ _) | (with_reducible refine Below.drew ?_) | (with_reducible refine below_drewN ?_ _) | (with_reducible refine Below.setCell ?_ ?_ _) | (first | omega | (simp only [World.size_alloc, size_plus, World.size_drew, World.size_setCell] <;> omega) | (simp <;> omega)) | omega | (simp; omega))))); rintro e w' ⟨rfl, hb⟩; (first | (obtain ⟨X, rfl⟩ := plus_again hb) | (obtain ⟨X, rfl⟩ := plus_of_below hb)); clear hb)
    go_ret
    exact ⟨by rw [hf.out]; rfl, by (repeat' (first | (with_reducible exact Below.refl _ _) | (with_reducible assumption) | (with_reducible refine below_plus ?_ ?_ _) | (with_reducible refine Below.alloc ?_ ?_ _) | (with_reducible refine Below.drew ?_) | (with_reducible refine below_drewN ?_ _) | (with_reducible refine Below.setCell ?_ ?_ _) | (first | omega | (simp only [World.size_alloc, size_plus, World.size_drew, World.size_setCell] <;> omega) | (simp <;> omega)) | omega | (simp; omega)))⟩
  · rw [if_neg hc] at hf
    have hcb : (ci != 0) = false := by simpa using hc
    clear hc
    by_cases h0 : 0 < v
    · rw [if_pos h0] at hf
      go_enter Try.func43, Try.ntmps43
      go_wp2_with (first | (go_at_call 91; refine (HC.out _ _ ?_).mono ?_; exact HR.out.keep (below_keeps (by (repeat' (first | (with_reducible exact Below.refl _ _) | (with_reducible assumption) | (with_reducible refine below_plus ?_ ?_ _) | (with_reducible refine Below.alloc ?_ ?_ _) | (with_reducible refine Below.drew ?_) | (with_reducible refine below_drewN ?_ _) | (with_reducible refine Below.setCell ?_ ?_ _) | (first | omega | (simp only [World.size_alloc, size_plus, World.size_drew, World.size_setCell] <;> omega) | (simp <;> omega)) | omega | (simp; omega))))); rintro e w' ⟨rfl, hb⟩; (first | (obtain ⟨X, rfl⟩ := plus_again hb) | (obtain ⟨X, rfl⟩ := plus_of_below hb)); clear hb) | (go_at_call 26; refine (HG.out _ _ ?_).mono ?_; exact HR.out.keep (below_keeps (by (repeat' (first | (with_reducible exact Below.refl _ _) | (with_reducible assumption) | (with_reducible refine below_plus ?_ ?_ _) | (with_reducible refine Below.alloc ?_ ?_ _) | (with_reducible refine Below.drew ?_) | (with_reducible refine below_drewN ?_ _) | (with_reducible refine Below.setCell ?_ ?_ _) | (first | omega | (simp only [World.size_alloc, size_plus, World.size_drew, World.size_setCell] <;> omega) | (simp <;> omega)) | omega | (simp; omega))))); rintro e w' ⟨rfl, hb⟩; (first | (obtain ⟨X, rfl⟩ := plus_again hb) | (obtain ⟨X, rfl⟩ := plus_of_below hb)); clear hb))
      go_ret
      exact ⟨by rw [hf.out]; rfl, by (repeat' (first | (with_reducible exact Below.refl _ _) | (with_reducible assumption) | (with_reducible refine below_plus ?_ ?_ _) | (with_reducible refine Below.alloc ?_ ?_ _) | (with_reducible refine Below.drew ?_) | (with_reducible refine below_drewN ?_ _) | (with_reducible refine Below.setCell ?_ ?_ _) | (first | omega | (simp only [World.size_alloc, size_plus, World.size_drew, World.size_setCell] <;> omega) | (simp <;> omega)) | omega | (simp; omega)))⟩
    · rw [if_neg h0] at hf
      go_enter Try.func43, Try.ntmps43
      go_wp2_with (first | (go_at_call 91; refine (HC.out _ _ ?_).mono ?_; exact HR.out.keep (below_keeps (by (repeat' (first | (with_reducible exact Below.refl _ _) | (with_reducible assumption) | (with_reducible refine below_plus ?_ ?_ _) | (with_reducible refine Below.alloc ?_ ?_ _) | (with_reducible refine Below.drew ?_) | (with_reducible refine below_drewN ?_ _) | (with_reducible refine Below.setCell ?_ ?_ _) | (first | omega | (simp only [World.size_alloc, size_plus, World.size_drew, World.size_setCell] <;> omega) | (simp <;> omega)) | omega | (simp; omega))))); rintro e w' ⟨rfl, hb⟩; (first | (obtain ⟨X, rfl⟩ := plus_again hb) | (obtain ⟨X, rfl⟩ := plus_of_below hb)); clear hb) | (go_at_call 26; refine (HG.out _ _ ?_).mono ?_; exact HR.out.keep (below_keeps (by (repeat' (first | (with_reducible exact Below.refl _ _) | (with_reducible assumption) | (with_reducible refine below_plus ?_ ?_ _) | (with_reducible refine Below.alloc ?_ ?_ _) | (with_reducible refine Below.drew ?_) | (with_reducible refine below_drewN ?_ _) | (with_reducible refine Below.setCell ?_ ?_ _) | (first | omega | (simp only [World.size_alloc, size_plus, World.size_drew, World.size_setCell] <;> omega) | (simp <;> omega)) | omega | (simp; omega))))); rintro e w' ⟨rfl, hb⟩; (first | (obtain ⟨X, rfl⟩ := plus_again hb) | (obtain ⟨X, rfl⟩ := plus_of_below hb)); clear hb))
      go_ret
      exact ⟨by rw [hf.out]; rfl, by (repeat' (first | (with_reducible exact Below.refl _ _) | (with_reducible assumption) | (with_reducible refine below_plus ?_ ?_ _) | (with_reducible refine Below.alloc ?_ ?_ _) | (with_reducible refine Below.drew ?_) | (with_reducible refine below_drewN ?_ _) | (with_reducible refine Below.setCell ?_ ?_ _) | (first | omega | (simp only [World.size_alloc, size_plus, World.size_drew, World.size_setCell] <;> omega) | (simp <;> omega)) | omega | (simp; omega)))⟩

set_option maxRecDepth 100000 in
set_option maxHeartbeats 1000000 in
theorem c_Shadow (cs : Array Value) (ht : Int) (x : RN) (i : Int) (w : World) (hr : RdVals w cs 12 (encR ht x)) (hv : vOk ht x) (i2 : -9223372036854775808 ≤ i) (i3 : i ≤ 9223372036854775807) :
    Calls Try.prog 45 #[.agg cs, .int .i64 i] w fun e w' => e = .returned (.int .i64 (shadowP ht x i)) ∧ Below w.heap.size w w' := by
  obtain ⟨A, cap, rfl, hk⟩ := rdR_open hr
  have HR := Lib.hid hr
  have hb := hv i
  have HG : Hid (∀ cs W, RdVals W cs 12 (encR ht x) → Calls Try.prog 26 #[.agg cs, .int .i64 i] W fun e w' => e = .returned (.int .i64 (getP ht x i)) ∧ Below W.heap.size W w') := fun cs W h => p_Get cs ht x i W h i2 i3
  have HC : Hid (∀ cs W, RdVals W cs 12 (encR ht x) → Calls Try.prog 91 #[.agg cs, .int .i64 i] W fun e w' => e = .returned (.int .i64 (fcI ht x i)) ∧ Below W.heap.size W w') := fun cs W h => c_check cs ht x i W h hv
  have hf : Hid (shadowP ht x i = if fcI ht x i ≠ 0 then -1 else if getP ht x i < 0 then -1 - getP ht x i else -1) := rfl
  clear hr hk hv
  generalize fcI ht x i = ci at *
  generalize getP ht x i = v at *
  by_cases hc : ci ≠ 0
  · rw [if_pos hc] at hf
    have hcb : (ci != 0) = true := by simp [hc]
    clear hc
    go_enter Try.func45, Try.ntmps45
    go_wp2_with (go_at_call 91; refine (HC.out _ _ ?_).mono ?_; exact HR.out.keep (below_keeps (by (repeat' (first | (with_reducible exact Below.refl _ _) | (with_reducible assumption) | (with_reducible refine below_plus ?_ ?_ _) | (with_reducible refine Below.alloc ?_ ?_ _) | (with_reducible refine Below.drew ?_) | (with_reducible refine below_drewN ?_ _) | (with_reducible refine Below.setCell ?_ ?_ _) | (first | omega | (simp only [World.size_alloc, size_plus, World.size_drew, World.size_setCell] <;> omega) | (simp <;> omega)) | omega | (simp; omega))))); rintro e w' ⟨rfl, hb⟩; (first | (obtain ⟨X, rfl⟩ := plus_again hb) | (obtain ⟨X, rfl⟩ := plus_of_below hb)); clear hb)
    go_ret
    exact ⟨by rw [hf.out]; rfl, by (repeat' (first | (with_reducible exact Below.refl _ _) | (with_reducible assumption) | (with_reducible refine below_plus ?_ ?_ _) | (with_reducible refine Below.alloc ?_ ?_ _) | (with_reducible refine Below.drew ?_) | (with_reducible refine below_drewN ?_ _) | (with_reducible refine Below.setCell ?_ ?_ _) | (first | omega | (simp only [World.size_alloc, size_plus, World.size_drew, World.size_setCell] <;> omega) | (simp <;> omega)) | omega | (simp; omega)))⟩
  · rw [if_neg hc] at hf
    have hcb : (ci != 0) = false := by simpa using hc
    clear hc
    by_cases h0 : v < 0
    · rw [if_pos h0] at hf
      go_enter Try.func45, Try.ntmps45
      go_wp2_with (first | (go_at_call 91; refine (HC.out _ _ ?_).mono ?_; exact HR.out.keep (below_keeps (by (repeat' (first | (with_reducible exact Below.refl _ _) | (with_reducible assumption) | (with_reducible refine below_plus ?_ ?_ _) | (with_reducible refine Below.alloc ?_ ?_ _) | (with_reducible refine Below.drew ?_) | (with_reducible refine below_drewN ?_ _) | (with_reducible refine Below.setCell ?_ ?_ _) | (first | omega | (simp only [World.size_alloc, size_plus, World.size_drew, World.size_setCell] <;> omega) | (simp <;> omega)) | omega | (simp; omega))))); rintro e w' ⟨rfl, hb⟩; (first | (obtain ⟨X, rfl⟩ := plus_again hb) | (obtain ⟨X, rfl⟩ := plus_of_below hb)); clear hb) | (go_at_call 26; refine (HG.out _ _ ?_).mono ?_; exact HR.out.keep (below_keeps (by (repeat' (first | (with_reducible exact Below.refl _ _) | (with_reducible assumption) | (with_reducible refine below_plus ?_ ?_ _) | (with_reducible refine Below.alloc ?_ ?_ _) | (with_reducible refine Below.drew ?_) | (with_reducible refine below_drewN ?_ _) | (with_reducible refine Below.setCell ?_ ?_ _) | (first | omega | (simp only [World.size_alloc, size_plus, World.size_drew, World.size_setCell] <;> omega) | (simp <;> omega)) | omega | (simp; omega))))); rintro e w' ⟨rfl, hb⟩; (first | (obtain ⟨X, rfl⟩ := plus_again hb) | (obtain ⟨X, rfl⟩ := plus_of_below hb)); clear hb))
      go_ret
      exact ⟨by rw [hf.out]; rfl, by (repeat' (first | (with_reducible exact Below.refl _ _) | (with_reducible assumption) | (with_reducible refine below_plus ?_ ?_ _) | (with_reducible refine Below.alloc ?_ ?_ _) | (with_reducible refine Below.drew ?_) | (with_reducible refine below_drewN ?_ _) | (with_reducible refine Below.setCell ?_ ?_ _) | (first | omega | (simp only [World.size_alloc, size_plus, World.size_drew, World.size_setCell] <;> omega) | (simp <;> omega)) | omega | (simp; omega)))⟩
    · rw [if_neg h0] at hf
      go_enter Try.func45, Try.ntmps45
      go_wp2_with (first | (go_at_call 91; refine (HC.out _ _ ?_).mono ?_; exact HR.out.keep (below_keeps (by (repeat' (first | (with_reducible exact Below.refl _ _) | (with_reducible assumption) | (with_reducible refine below_plus ?_ ?_ _) | (with_reducible refine Below.alloc ?_ ?_ _) | (with_reducible refine Below.drew ?_) | (with_reducible refine below_drewN ?_ _) | (with_reducible refine Below.setCell ?_ ?_ _) | (first | omega | (simp only [World.size_alloc, size_plus, World.size_drew, World.size_setCell] <;> omega) | (simp <;> omega)) | omega | (simp; omega))))); rintro e w' ⟨rfl, hb⟩; (first | (obtain ⟨X, rfl⟩ := plus_again hb) | (obtain ⟨X, rfl⟩ := plus_of_below hb)); clear hb) | (go_at_call 26; refine (HG.out _ _ ?_).mono ?_; exact HR.out.keep (below_keeps (by (repeat' (first | (with_reducible exact Below.refl _ _) | (with_reducible assumption) | (with_reducible refine below_plus ?_ ?_ _) | (with_reducible refine Below.alloc ?_ ?_ _) | (with_reducible refine Below.drew ?_) | (with_reducible refine below_drewN ?_ _) | (with_reducible refine Below.setCell ?_ ?_ _) | (first | omega | (simp only [World.size_alloc, size_plus, World.size_drew, World.size_setCell] <;> omega) | (simp <;> omega)) | omega | (simp; omega))))); rintro e w' ⟨rfl, hb⟩; (first | (obtain ⟨X, rfl⟩ := plus_again hb) | (obtain ⟨X, rfl⟩ := plus_of_below hb)); clear hb))
      go_ret
      exact ⟨by rw [hf.out]; rfl, by (repeat' (first | (with_reducible exact Below.refl _ _) | (with_reducible assumption) | (with_reducible refine below_plus ?_ ?_ _) | (with_reducible refine Below.alloc ?_ ?_ _) | (with_reducible refine Below.drew ?_) | (with_reducible refine below_drewN ?_ _) | (with_reducible refine Below.setCell ?_ ?_ _) | (first | omega | (simp only [World.size_alloc, size_plus, World.size_drew, World.size_setCell] <;> omega) | (simp <;> omega)) | omega | (simp; omega)))⟩

set_option maxRecDepth 100000 in
set_option maxHeartbeats 1000000 in
theorem c_NextDirty (cs : Array Value) (ht : Int) (x : RN) (i : Int) (w : World) (hr : RdVals w cs 12 (encR ht x)) (hv : vOk ht x) :
    Calls Try.prog 47 #[.agg cs, .int .i64 i] w fun e w' => e = .returned (.int .i64 (dirtyP ht x i)) ∧ Below w.heap.size w w' := by
  obtain ⟨A, cap, rfl, hk⟩ := rdR_open hr
  have HR := Lib.hid hr
  have HC : Hid (∀ cs W, RdVals W cs 12 (encR ht x) → Calls Try.prog 41 #[.agg cs] W fun e w' => e = .returned (.int .i64 (fcP ht x)) ∧ Below W.heap.size W w') := fun cs W h => c_Check cs ht x W h hv
  have HN : Hid (∀ cs W, RdVals W cs 12 (encR ht x) → Calls Try.prog 28 #[.agg cs, .int .i64 i, .int .i64 0] W fun e w' => e = .returned (.int .i64 (nextP ht x i 0)) ∧ Below W.heap.size W w') := fun cs W h => p_Next cs ht x i 0 W h
  have hf : Hid (dirtyP ht x i = if fcP ht x ≠ 0 then -1 else nextP ht x i 0) := rfl
  clear hr hk hv
  generalize fcP ht x = ci at *
  generalize nextP ht x i 0 = v at *
  by_cases hc : ci ≠ 0
  · rw [if_pos hc] at hf
    have hcb : (ci != 0) = true := by simp [hc]
    clear hc
    go_enter Try.func47, Try.ntmps47
    go_wp2_with (go_at_call 41; refine (HC.out _ _ ?_).mono ?_; exact HR.out.keep (below_keeps (by (repeat' (first | (with_reducible exact Below.refl _ _) | (with_reducible assumption) | (with_reducible refine below_plus ?_ ?_ _) | (with_reducible refine Below.alloc ?_ ?_ _) | (with_reducible refine Below.drew ?_) | (with_reducible refine below_drewN ?_ _) | (with_reducible refine Below.setCell ?_ ?_ _) | (first | omega | (simp only [World.size_alloc, size_plus, World.size_drew, World.size_setCell] <;> omega) | (simp <;> omega)) | omega | (simp; omega))))); rintro e w' ⟨rfl, hb⟩; (first | (obtain ⟨X, rfl⟩ := plus_again hb) | (obtain ⟨X, rfl⟩ := plus_of_below hb)); clear hb)
    go_ret
    exact ⟨by rw [hf.out]; rfl, by (repeat' (first | (with_reducible exact Below.refl _ _) | (with_reducible assumption) | (with_reducible refine below_plus ?_ ?_ _) | (with_reducible refine Below.alloc ?_ ?_ _) | (with_reducible refine Below.drew ?_) | (with_reducible refine below_drewN ?_ _) | (with_reducible refine Below.setCell ?_ ?_ _) | (first | omega | (simp only [World.size_alloc, size_plus, World.size_drew, World.size_setCell] <;> omega) | (simp <;> omega)) | omega | (simp; omega)))⟩
  · rw [if_neg hc] at hf
    have hcb : (ci != 0) = false := by simpa using hc
    clear hc
    go_enter Try.func47, Try.ntmps47
    go_wp2_with (first | (go_at_call 41; refine (HC.out _ _ ?_).mono ?_; exact HR.out.keep (below_keeps (by (repeat' (first | (with_reducible exact Below.refl _ _) | (with_reducible assumption) | (with_reducible refine below_plus ?_ ?_ _) | (with_reducible refine Below.alloc ?_ ?_ _) | (with_reducible refine Below.drew ?_) | (with_reducible refine below_drewN ?_ _) | (with_reducible refine Below.setCell ?_ ?_ _) | (first | omega | (simp only [World.size_alloc, size_plus, World.size_drew, World.size_setCell] <;> omega) | (simp <;> omega)) | omega | (simp; omega))))); rintro e w' ⟨rfl, hb⟩; (first | (obtain ⟨X, rfl⟩ := plus_again hb) | (obtain ⟨X, rfl⟩ := plus_of_below hb)); clear hb) | (go_at_call 28; refine (HN.out _ _ ?_).mono ?_; exact HR.out.keep (below_keeps (by (repeat' (first | (with_reducible exact Below.refl _ _) | (with_reducible assumption) | (with_reducible refine below_plus ?_ ?_ _) | (with_reducible refine Below.alloc ?_ ?_ _) | (with_reducible refine Below.drew ?_) | (with_reducible refine below_drewN ?_ _) | (with_reducible refine Below.setCell ?_ ?_ _) | (first | omega | (simp only [World.size_alloc, size_plus, World.size_drew, World.size_setCell] <;> omega) | (simp <;> omega)) | omega | (simp; omega))))); rintro e w' ⟨rfl, hb⟩; (first | (obtain ⟨X, rfl⟩ := plus_again hb) | (obtain ⟨X, rfl⟩ := plus_of_below hb)); clear hb))
    go_ret
    exact ⟨by rw [hf.out]; rfl, by (repeat' (first | (with_reducible exact Below.refl _ _) | (with_reducible assumption) | (with_reducible refine below_plus ?_ ?_ _) | (with_reducible refine Below.alloc ?_ ?_ _) | (with_reducible refine Below.drew ?_) | (with_reducible refine below_drewN ?_ _) | (with_reducible refine Below.setCell ?_ ?_ _) | (first | omega | (simp only [World.size_alloc, size_plus, World.size_drew, World.size_setCell] <;> omega) | (simp <;> omega)) | omega | (simp; omega)))⟩
end Go.Proofs.Ytcicfijpfhbcaaa
