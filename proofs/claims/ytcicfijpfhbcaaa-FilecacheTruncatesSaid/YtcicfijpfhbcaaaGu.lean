/-
  The reference of filecache: Truncate.
-/
import Derived.Test.YtcicfijpfhbcaaaGt
namespace Go.Proofs.Ytcicfijpfhbcaaa
set_option linter.unusedSimpArgs false
set_option linter.unusedVariables false
set_option linter.unusedSectionVars false
open Go.RowKit

/-- A tree in a box: read as it was handed in, or owned; beside it a list. -/
structure TS (w V : World) (g : Nat) (lf : List Int) (v : Value) (t : Nat × RN) (A : Option Addr) (cap : Nat) (S : Nat → Prop) (wr : World) : Prop where
  blk : wr.heap[g]? = some (.cells (cellsR t.1 t.2 (.slice A t.2.n cap)) 28 (0, 0))
  tree : (S = fun _ => False) ∧ RdVals w (cellsR t.1 t.2 (.slice A t.2.n cap)) 12 (encR t.1 t.2) ∨ OwnK wr t.2 (.slice A t.2.n cap) S
  S_ : ∀ b, S b → V.heap.size ≤ b ∧ b < wr.heap.size ∧ v.ownBlock ≠ some b
  list : OwnI wr V.heap.size lf v
  ex : Ex g V wr
  below : Below w.heap.size w wr
  gV : g < V.heap.size
  g_ : w.heap.size + 2 ≤ g
section
variable {w V wr W : World} {g : Nat} {lf : List Int} {v : Value} {t : Nat × RN} {A : Option Addr} {cap : Nat} {S : Nat → Prop}
theorem TS.rd (h : TS w V g lf v t A cap S wr) : RdVals wr (cellsR t.1 t.2 (.slice A t.2.n cap)) 12 (encR t.1 t.2) :=
  h.tree.elim (fun e => e.2.keep (below_keeps h.below)) fun o => rdR_shut o.rd
theorem TS.go (h : TS w V g lf v t A cap S wr) (hb : Below wr.heap.size wr W) : TS w V g lf v t A cap S W :=
  ⟨(hb.block _ (lt_of_heap h.blk)).trans h.blk, h.tree.imp id fun o => o.frame _ fun b _ hl => hb.block b hl, fun b hb' => ⟨(h.S_ b hb').1, Nat.lt_of_lt_of_le (h.S_ b hb').2.1 hb.size, (h.S_ b hb').2.2⟩, h.list.below hb, h.ex.go hb, h.below.trans (hb.mono h.below.size), h.gV, h.g_⟩
theorem TS.app {i : Int} {ty : TypeId} {v' : Value} (h : TS w V g lf v t A cap S wr) (ha : AppI (wr.alloc (.cells #[.int .i64 i] ty)) W V.heap.size (lf ++ [i]) v v') : TS w V g (lf ++ [i]) v' t A cap S W := by
  have hV := h.ex.size
  have hsz := ha.below.size
  have hne : v.ownBlock ≠ some g := fun e => by have := h.list.base_ g e; have := h.gV; omega
  have hst : ∀ k, k < wr.heap.size → v.ownBlock ≠ some k → W.heap[k]? = wr.heap[k]? := fun k hk hn => (ha.far k (by simp; omega) hn).trans (Below.heap_alloc _ _ _ hk)
  refine ⟨(hst g (lt_of_heap h.blk) hne).trans h.blk, h.tree.imp id fun o => o.frame _ fun b hb hl => hst b hl (h.S_ b hb).2.2, fun b hb => ⟨(h.S_ b hb).1, by have := (h.S_ b hb).2.1; simp at hsz; omega, fun e => ?_⟩, ha.own, ⟨?_, fun k hk hn => (hst k (by omega) fun e => by have := h.list.base_ k e; omega).trans (h.ex.far k hk hn)⟩,
    (h.below.alloc h.below.size _).trans (ha.below.mono ?_), h.gV, h.g_⟩
  · rcases ha.lies b e with e1 | e1
    · exact (h.S_ b hb).2.2 e1
    · have := (h.S_ b hb).2.1; simp at e1; omega
  · simp at hsz; omega
  · have := h.below.size; have := h.gV; have := h.g_; omega
theorem TS.store {u : Nat × RN} {B : Option Addr} {c : Nat} (h : TS w V g lf v t A cap S wr) (hb : Below wr.heap.size wr W) (ho : OwnK W u.2 (.slice B u.2.n c) (fun b => wr.heap.size ≤ b)) :
    TS w V g lf v u B c (fun b => wr.heap.size ≤ b ∧ b < W.heap.size) (W.setRow g (cellsR u.1 u.2 (.slice B u.2.n c))) := by
  have h' := h.go hb
  have hgw := lt_of_heap h.blk
  have hV := h.ex.size
  have h0 := h.below.size
  refine ⟨setRow_heap _ _ _ _ _ _ h'.blk, .inr (OwnK.frame _ (OwnK.frame' _ ho fun _ _ _ => rfl) fun b hb' _ => setRow_other _ _ _ _ (by have := hb'.1; omega)), fun b hb' => ⟨by have := hb'.1; omega, by rw [size_setRow]; exact hb'.2, fun e => by have := h.list.lt b e; have := hb'.1; omega⟩, h'.list.keep fun q hq _ => setRow_other _ _ _ _ fun e => ?_, h'.ex.set _, below_setRow h'.below (by have := h.g_; omega) _, h.gV, h.g_⟩
  have := h.list.base_ q hq
  have := h.gV
  omega
/-- The result is laid into a lower box. -/
theorem TS.fin {r : Nat} {row : Array Value} (h : TS w V g lf v t A cap S wr) (hr : r < V.heap.size) (hw : w.heap.size ≤ r) : RdVals (wr.setRow r row) (cellsR t.1 t.2 (.slice A t.2.n cap)) 12 (encR t.1 t.2) := by
  rcases h.tree with e | o
  · exact e.2.keep (below_keeps (below_setRow h.below hw _))
  · exact rdR_shut (o.frame (w' := wr.setRow r row) _ fun b hb _ => setRow_other _ _ _ _ (by have := (h.S_ b hb).1; omega)).rd
theorem TS.finL {r : Nat} {row : Array Value} (h : TS w V g lf v t A cap S wr) (hr : r < V.heap.size) (hw : w.heap.size ≤ V.heap.size) : OwnI (wr.setRow r row) w.heap.size lf v :=
  (h.list.keep fun q hq _ => setRow_other _ _ _ _ (by have := h.list.base_ q hq; omega)).mono hw
end
/-- What the reference's Truncate leaves where the program leaves p. -/
def RTrunc (p : (Int × RN) × List Int × Int) (w : World) (e : Ending) (w' : World) : Prop :=
  ∃ (h2 : Int) (x2 : RN) (A2 : Option Addr) (c2 : Nat) (v : Value), e = .returned (.tuple #[.agg (cellsR h2 x2 (.slice A2 x2.n c2)), v, .int .i64 p.2.2]) ∧ RdVals w' (cellsR h2 x2 (.slice A2 x2.n c2)) 12 (encR h2 x2) ∧ OwnI w' w.heap.size p.2.1 v ∧ Below w.heap.size w w' ∧ sameT p.1.1 h2 p.1.2 x2 = true

set_option maxRecDepth 100000 in
set_option maxHeartbeats 1000000 in
theorem d_Truncate (cs : Array Value) (ht : Int) (x : RN) (size : Int) (w : World) (hr : RdVals w cs 12 (encR ht x)) (hv : vOk ht x) :
    Calls Try.prog 53 #[.agg cs, .int .i64 size] w (RTrunc (truncP ht x size) w) := by
  obtain ⟨A, cap, rfl, hk⟩ := rdR_open hr
  have HR := Lib.hid hr
  have HV := Lib.hid hv
  clear hr hk hv
  have HCK : Hid (∀ cs W, RdVals W cs 12 (encR ht x) → Calls Try.prog 42 #[.agg cs] W fun e w' => e = .returned (.int .i64 (fcP ht x)) ∧ Below W.heap.size W w') := fun cs W h => d_Check cs ht x W h
  have hz0 : ∀ W, RdVals W (cellsR 0 zeroN (.slice none 0 0)) 12 (encR 0 zeroN) := fun W => rdR_shut (OwnK.none_ (S := fun _ => False) rfl).rd
  have HZ0 := Lib.hid hz0
  clear hz0
  by_cases hc : fcP ht x ≠ 0
  · have hf : Hid (truncP ht x size = ((0, zeroN), [], fcP ht x)) := if_pos hc
    have hcb : (fcP ht x != 0) = true := by simp [hc]
    clear hc
    go_enter Try.func53, Try.ntmps53
    go_wp2_with (go_at_call 42; (with_reducible refine (HCK.out _ _ ?_).mono ?_); exact HR.out.keep (below_keeps (by (repeat' (first | (with_reducible exact Below.refl _ _) | (with_reducible assumption) | (with_reducible refine below_plus ?_ ?_ _) | (with_reducible refine Below.alloc ?_ ?_ _) | (with_reducible refine Below.drew ?_) | (with_reducible refine below_drewN ?_ _) | (with_reducible refine Below.setCell ?_ ?_ _) | (first | omega | (simp only [World.size_alloc, size_plus, World.size_drew, World.size_setCell] <;> omega) | (simp <;> omega)) | omega | (simp; omega))))); rintro e w' ⟨rfl, hb⟩; (first | (obtain ⟨X, rfl⟩ := plus_again hb) | (obtain ⟨X, rfl⟩ := plus_of_below hb)); clear hb)
    refine bodyPost_ret (v := _) (results_tree3 Try.results53 _ _ (w.heap.size + 1) 0 zeroN (.slice none 0 0) _ _ rfl ?_ rfl rfl) rfl (by rw [hf.out]; exact ⟨0, zeroN, none, 0, _, rfl, HZ0.out _, OwnI.nil _ _, by (repeat' (first | (with_reducible exact Below.refl _ _) | (with_reducible assumption) | (with_reducible refine below_plus ?_ ?_ _) | (with_reducible refine Below.alloc ?_ ?_ _) | (with_reducible refine Below.drew ?_) | (with_reducible refine below_drewN ?_ _) | (with_reducible refine Below.setCell ?_ ?_ _) | (first | omega | (simp only [World.size_alloc, size_plus, World.size_drew, World.size_setCell] <;> omega) | (simp <;> omega)) | omega | (simp; omega))), (by decide : sameT 0 0 zeroN zeroN = true)⟩)
    (repeat' (first | (refine heap_alloc_here _ _ _ ?_; (first | omega | (simp only [World.size_alloc, size_plus, World.size_drew, World.size_setCell] <;> omega) | (simp <;> omega))) | (refine (heap_alloc_old _ _ _ ?_).trans ?_; (first | omega | (simp only [World.size_alloc, size_plus, World.size_drew, World.size_setCell] <;> omega) | (simp <;> omega))) | (refine (heap_plus _ _ _ ?_).trans ?_; (first | omega | (simp only [World.size_alloc, size_plus, World.size_drew, World.size_setCell] <;> omega) | (simp <;> omega))) | rfl))
  · have hcb : (fcP ht x != 0) = false := by simpa using hc
    by_cases hs : size < 0 ∨ 1073741824 < size
    · have hf : Hid (truncP ht x size = ((0, zeroN), [], 2)) := by rw [Hid, truncP, if_neg hc, if_pos hs]
      clear hc
      by_cases hneg : size < 0
      · clear hs
        go_enter Try.func53, Try.ntmps53
        go_wp2_with (go_at_call 42; (with_reducible refine (HCK.out _ _ ?_).mono ?_); exact HR.out.keep (below_keeps (by (repeat' (first | (with_reducible exact Below.refl _ _) | (with_reducible assumption) | (with_reducible refine below_plus ?_ ?_ _) | (with_reducible refine Below.alloc ?_ ?_ _) | (with_reducible refine Below.drew ?_) | (with_reducible refine below_drewN ?_ _) | (with_reducible refine Below.setCell ?_ ?_ _) | (first | omega | (simp only [World.size_alloc, size_plus, World.size_drew, World.size_setCell] <;> omega) | (simp <;> omega)) | omega | (simp; omega))))); rintro e w' ⟨rfl, hb⟩; (first | (obtain ⟨X, rfl⟩ := plus_again hb) | (obtain ⟨X, rfl⟩ := plus_of_below hb)); clear hb)
        refine bodyPost_ret (v := _) (results_tree3 Try.results53 _ _ (w.heap.size + 1) 0 zeroN (.slice none 0 0) _ _ rfl ?_ rfl rfl) rfl (by rw [hf.out]; exact ⟨0, zeroN, none, 0, _, rfl, HZ0.out _, OwnI.nil _ _, by (repeat' (first | (with_reducible exact Below.refl _ _) | (with_reducible assumption) | (with_reducible refine below_plus ?_ ?_ _) | (with_reducible refine Below.alloc ?_ ?_ _) | (with_reducible refine Below.drew ?_) | (with_reducible refine below_drewN ?_ _) | (with_reducible refine Below.setCell ?_ ?_ _) | (first | omega | (simp only [World.size_alloc, size_plus, World.size_drew, World.size_setCell] <;> omega) | (simp <;> omega)) | omega | (simp; omega))), (by decide : sameT 0 0 zeroN zeroN = true)⟩)
        (repeat' (first | (refine heap_alloc_here _ _ _ ?_; (first | omega | (simp only [World.size_alloc, size_plus, World.size_drew, World.size_setCell] <;> omega) | (simp <;> omega))) | (refine (heap_alloc_old _ _ _ ?_).trans ?_; (first | omega | (simp only [World.size_alloc, size_plus, World.size_drew, World.size_setCell] <;> omega) | (simp <;> omega))) | (refine (heap_plus _ _ _ ?_).trans ?_; (first | omega | (simp only [World.size_alloc, size_plus, World.size_drew, World.size_setCell] <;> omega) | (simp <;> omega))) | rfl))
      · have hbig : 1073741824 < size := by omega
        clear hs
        go_enter Try.func53, Try.ntmps53
        go_wp2_with (go_at_call 42; (with_reducible refine (HCK.out _ _ ?_).mono ?_); exact HR.out.keep (below_keeps (by (repeat' (first | (with_reducible exact Below.refl _ _) | (with_reducible assumption) | (with_reducible refine below_plus ?_ ?_ _) | (with_reducible refine Below.alloc ?_ ?_ _) | (with_reducible refine Below.drew ?_) | (with_reducible refine below_drewN ?_ _) | (with_reducible refine Below.setCell ?_ ?_ _) | (first | omega | (simp only [World.size_alloc, size_plus, World.size_drew, World.size_setCell] <;> omega) | (simp <;> omega)) | omega | (simp; omega))))); rintro e w' ⟨rfl, hb⟩; (first | (obtain ⟨X, rfl⟩ := plus_again hb) | (obtain ⟨X, rfl⟩ := plus_of_below hb)); clear hb)
        refine bodyPost_ret (v := _) (results_tree3 Try.results53 _ _ (w.heap.size + 1) 0 zeroN (.slice none 0 0) _ _ rfl ?_ rfl rfl) rfl (by rw [hf.out]; exact ⟨0, zeroN, none, 0, _, rfl, HZ0.out _, OwnI.nil _ _, by (repeat' (first | (with_reducible exact Below.refl _ _) | (with_reducible assumption) | (with_reducible refine below_plus ?_ ?_ _) | (with_reducible refine Below.alloc ?_ ?_ _) | (with_reducible refine Below.drew ?_) | (with_reducible refine below_drewN ?_ _) | (with_reducible refine Below.setCell ?_ ?_ _) | (first | omega | (simp only [World.size_alloc, size_plus, World.size_drew, World.size_setCell] <;> omega) | (simp <;> omega)) | omega | (simp; omega))), (by decide : sameT 0 0 zeroN zeroN = true)⟩)
        (repeat' (first | (refine heap_alloc_here _ _ _ ?_; (first | omega | (simp only [World.size_alloc, size_plus, World.size_drew, World.size_setCell] <;> omega) | (simp <;> omega))) | (refine (heap_alloc_old _ _ _ ?_).trans ?_; (first | omega | (simp only [World.size_alloc, size_plus, World.size_drew, World.size_setCell] <;> omega) | (simp <;> omega))) | (refine (heap_plus _ _ _ ?_).trans ?_; (first | omega | (simp only [World.size_alloc, size_plus, World.size_drew, World.size_setCell] <;> omega) | (simp <;> omega))) | rfl))
    · have hf : Hid (truncP ht x size = ((((trT ht x size (eachL ht x (-1))).1 : Int), (trT ht x size (eachL ht x (-1))).2), trL ht x size (eachL ht x (-1)), 0)) := by rw [Hid, truncP, if_neg hc, if_neg hs]
      have s0 : 0 ≤ size := by omega
      have s1 : size ≤ 1073741824 := by omega
      have hc0 : checkP ht x = 0 := Classical.byContradiction fun hh => hc (by unfold fcP; rw [if_pos hh]; exact hh)
      have hb := check_neg hc0
      obtain ⟨h, rfl⟩ : ∃ h : Nat, ht = h := ⟨ht.toNat, by omega⟩
      have hT := check_iff.1 hc0
      clear hc hs hb hc0
      have hlen := len_each h x
      have HEA : Hid (∀ i ∈ eachL h x (-1), ∃ n : Nat, i = n ∧ n < 1073741824 ∧ getP h x n ≤ 9223372036854775807) := fun i hi => by
        have := each_at hi
        obtain ⟨n, rfl⟩ : ∃ n : Nat, i = n := ⟨i.toNat, by omega⟩
        exact ⟨n, rfl, by omega, (HV.out n).2⟩
      have HEND : Hid (∀ u, Cp (rmF (tl h x) size (eachL h x (-1))) u → Cp (cutE (tl h x) size) u) := fun u hu => hu.congr (rmF_end hT size)
      have HFIN : Hid (∀ u, Cp (cutE (tl h x) size) u → sameT (trT h x size (eachL h x (-1))).1 u.1 (trT h x size (eachL h x (-1))).2 u.2 = true) := fun u hu => (trunc_cp hT size).same hu
      have HSTART : Hid (Cp (rmF (tl h x) size []) (h, x)) := ⟨hT, fun j => by unfold rmF; rw [if_neg (fun e => by simp at e)]⟩
      have HLI : Hid (∀ cs W, RdVals W cs 12 (encR h x) → Calls Try.prog 39 #[.agg cs] W fun e w' => ∃ v, e = .returned v ∧ OwnI w' W.heap.size (eachL h x (-1)) v ∧ Below W.heap.size W w') := fun cs W hr => by
        have := r_List cs h x W hr
        rwa [← each_list] at this
      have HGT : Hid (∀ i cs W, RdVals W cs 12 (encR h x) → Calls Try.prog 27 #[.agg cs, .int .i64 i] W fun e w' => e = .returned (.int .i64 (getP h x i)) ∧ Below W.heap.size W w') := fun i cs W hr => by
        rw [get_ref]; exact r_Get cs h x i W hr
      clear hT HV
      generalize trT h x size (eachL h x (-1)) = tr at *
      generalize tl h x = f at *
      have hlenI : ((eachL h x (-1)).length : Int) ≤ 1073741824 := by omega
      generalize eachL h x (-1) = L at *
      go_enter Try.func53, Try.ntmps53
      go_wp2_with (first
        | (go_at_call 42; (with_reducible refine (HCK.out _ _ ?_).mono ?_); exact HR.out.keep (below_keeps (by (repeat' (first | (with_reducible exact Below.refl _ _) | (with_reducible assumption) | (with_reducible refine below_plus ?_ ?_ _) | (with_reducible refine Below.alloc ?_ ?_ _) | (with_reducible refine Below.drew ?_) | (with_reducible refine below_drewN ?_ _) | (with_reducible refine Below.setCell ?_ ?_ _) | (first | omega | (simp only [World.size_alloc, size_plus, World.size_drew, World.size_setCell] <;> omega) | (simp <;> omega)) | omega | (simp; omega))))); rintro e V0 ⟨rfl, hb⟩; (have hx0 : V0.heap[w.heap.size]? = some (.cells (cellsR h x (.slice A x.n cap)) 28 (0, 0)) := (hb.block _ (by (first | omega | (simp only [World.size_alloc, size_plus, World.size_drew, World.size_setCell] <;> omega) | (simp <;> omega)))).trans (((below_alloc _ _).block _ (by (first | omega | (simp only [World.size_alloc, size_plus, World.size_drew, World.size_setCell] <;> omega) | (simp <;> omega)))).trans (heap_alloc_here _ _ _ rfl))); (have hy0 : V0.heap[w.heap.size + 1]? = some (.cells (cellsR 0 zeroN (.slice none 0 0)) 28 (0, 0)) := (hb.block _ (by (first | omega | (simp only [World.size_alloc, size_plus, World.size_drew, World.size_setCell] <;> omega) | (simp <;> omega)))).trans (heap_alloc_here _ _ _ (by (first | omega | (simp only [World.size_alloc, size_plus, World.size_drew, World.size_setCell] <;> omega) | (simp <;> omega))))); (have hw0 : Below w.heap.size w V0 := (by (repeat' (first | (with_reducible exact Below.refl _ _) | (with_reducible assumption) | (with_reducible refine below_plus ?_ ?_ _) | (with_reducible refine Below.alloc ?_ ?_ _) | (with_reducible refine Below.drew ?_) | (with_reducible refine below_drewN ?_ _) | (with_reducible refine Below.setCell ?_ ?_ _) | (first | omega | (simp only [World.size_alloc, size_plus, World.size_drew, World.size_setCell] <;> omega) | (simp <;> omega)) | omega | (simp; omega))) : Below w.heap.size w _).trans (hb.mono (by (first | omega | (simp only [World.size_alloc, size_plus, World.size_drew, World.size_setCell] <;> omega) | (simp <;> omega))))); have d0 := row12 hx0; have l0 := lt_of_heap hx0; have HX0 := Lib.hid hx0; have HY0 := Lib.hid hy0; have HW0 := Lib.hid hw0; clear hb hx0 hy0 hw0)
        | ((with_reducible refine wpList_storeR_new (.tmp 8) (.tmp 26) ?_ ?_ V0.heap.size ?_ h x A x.n cap ?_ rfl rfl ?_); (with_reducible rfl); rfl; rfl; rfl; generalize hV1 : World.alloc V0 _ = V1; (have hb1 : Below V0.heap.size V0 V1 := by rw [← hV1]; exact below_alloc _ _); (have hg1 : V1.heap[V0.heap.size]? = some (.cells (cellsR h x (.slice A x.n cap)) 28 (0, 0)) := by rw [← hV1]; exact heap_alloc_new _ _); (have hx1 := (hb1.block _ (lt_of_heap HX0.out)).trans HX0.out); (have hy1 := (hb1.block _ (lt_of_heap HY0.out)).trans HY0.out); have d1 := row12 hx1; have l1 := lt_of_heap hx1; (have HW1 : Hid (Below w.heap.size w V1) := HW0.out.trans (hb1.mono HW0.out.size)); (have hl01 := lt_of_heap HY0.out); have HG1 := Lib.hid hg1; have HX1 := Lib.hid hx1; have HY1 := Lib.hid hy1; clear hV1 hb1 hg1 hx1 hy1 d0 l0 HX0 HY0)
        | (go_at_call 39; (with_reducible refine (HLI.out _ _ ?_).mono ?_); exact HR.out.keep (below_keeps HW1.out); rintro e V ⟨v, rfl, ho, hb⟩; (obtain ⟨A1, cap1, rfl, -, -⟩ := ho.slice); have HL := Lib.hid ho; have hgl := lt_of_heap HG1.out; have HX := Lib.hid ((hb.block _ (lt_of_heap HX1.out)).trans HX1.out); have HY := Lib.hid ((hb.block _ (lt_of_heap HY1.out)).trans HY1.out); (have HTS : Hid (TS w V V0.heap.size [] (.slice none 0 0) (h, x) A cap (fun _ => False) V) := ⟨(hb.block _ hgl).trans HG1.out, .inl ⟨rfl, HR.out⟩, fun b e => e.elim, OwnI.nil _ _, Ex.refl _ _, HW1.out.trans (hb.mono HW1.out.size), Nat.lt_of_lt_of_le hgl hb.size, hl01⟩); clear ho hb d1 l1))
      generalize V0.heap.size = g at *
      go_loopw [9, 30] (fun v i wr => ∃ (k : Nat) (t : Nat × RN) (A' : Option Addr) (cap' : Nat) (S : Nat → Prop), k ≤ L.length ∧ i = .int .i64 k ∧ Cp (rmF f size (L.take k)) t ∧ TS w V g (trL h x size (L.take k)) v t A' cap' S wr) (fun _ i _ => L.length - (intOf i).toNat)
      case atStart => exact ⟨0, (h, x), A, cap, _, by omega, rfl, HSTART.out, HTS.out⟩
      case round =>
        obtain ⟨k, t, A', cap', S, hk, rfl, hcp, hts⟩ := hrel
        by_cases hlt : k < L.length
        · have hlt' : (k : Int) < (L.length : Int) := by omega
          have hg : L[k]? = some L[k] := List.getElem?_eq_getElem hlt
          have hm : L[k] ∈ L := List.getElem_mem hlt
          obtain ⟨g2, cap2, hs, -, hgw, ci⟩ := (HL.out.ex hts.ex hgl).at hg
          injection hs with e1 e2 e3
          subst e1 e3
          have hst : L.take (k + 1) = L.take k ++ [L[k]] := by rw [List.take_add_one, hg]; rfl
          have htl := trL_snoc h x size (L.take k) L[k]
          rw [← hst] at htl
          have hll : (trL h x size (L.take k)).length ≤ 1073741824 := by
            have := trL_len h x size (L.take k)
            rw [List.length_take] at this
            omega
          have hg8 := hts.g_
          have hbox : wr.heap[w.heap.size]? = some (.cells (cellsR h x (.slice A x.n cap)) 28 (0, 0)) := (hts.ex.far _ (lt_of_heap HX.out) (by omega)).trans HX.out
          obtain ⟨n, hin, hn, hvb⟩ := HEA.out _ hm
          rw [hin] at hst htl ci
          have hnI : (n : Int) < 1073741824 := by omega
          by_cases hsz : size ≤ n
          · rw [if_pos hsz] at htl
            have HGI := Lib.hid (HGT.out n)
            have HSE : Hid (∀ cs W, RdVals W cs 12 (encR t.1 t.2) → Calls Try.prog 25 #[.agg cs, .int .i64 n, .int .i64 0] W fun e w' => ∃ (h2 : Nat) (x2 : RN), TreePost ((h2 : Int), x2, 0) W e w' ∧ Cp (rmF f size (L.take (k + 1))) (h2, x2)) := fun cs W hr =>
              (refSet_ok hcp.1 hn _ cs W hr).mono fun e w' ⟨h2, x2, hp, ho, hl⟩ => ⟨h2, x2, hp, ho, fun j => by rw [hst]; exact rmF_set hsz hcp hl j⟩
            have d12 := row12 hbox
            have hlB := lt_of_heap hbox
            have HT := Lib.hid hts
            clear hg hm hst hin e2 hcp hts hbox hn hnI
            generalize trL h x size (L.take k) = lf at *
            generalize getP h x n = vn at *
            by_cases h0 : 0 < vn
            · rw [if_pos h0] at htl
              have HTL := Lib.hid htl
              clear htl
              obtain ⟨A3, cap3, rfl, -, -⟩ := HT.out.list.slice
              go_wp2_with (first
                | (go_at_call 27; (with_reducible refine (HGI.out _ _ ?_).mono ?_); exact HR.out.keep (below_keeps HT.out.below); rintro e W2 ⟨rfl, hb2⟩; have HT2 := Lib.hid (HT.out.go hb2); have hV2 := HT2.out.ex.size; clear hb2 d12)
                | ((with_reducible refine wpList_appendI ?_ (.tmp 42) (.tmp 45) ?_ V.heap.size lf _ ?_ HT2.out.list (vn - 1) _ ?_ hV2 hll ?_); rfl; (with_reducible rfl); rfl; rfl; (intro v2 W3 ha); (obtain ⟨A5, cap5, rfl, -, -⟩ := ha.own.slice); have HT3 := Lib.hid (HT2.out.app ha); have d3 := row12 HT3.out.blk; have l3 := lt_of_heap HT3.out.blk; clear ha)
                | (go_at_call 25; (with_reducible refine (HSE.out _ _ ?_).mono ?_); exact HT3.out.rd; rintro e W4 ⟨t1, x1, ⟨s1, rfl, hown1, hb4⟩, hcp1⟩; (obtain ⟨A4, cap4, rfl, -⟩ := hown1.slice); have HC4 := Lib.hid hcp1; have HT4 := Lib.hid (HT3.out.store (u := (t1, x1)) hb4 hown1); have HRG4 := Lib.hid (HT3.out.go hb4).blk; clear hown1 hb4 hcp1 d3 l3)
                | ((with_reducible refine wpList_storeR (.tmp 8) (.tmp 51) ?_ ?_ g ?_ t1 x1 A4 x1.n cap4 ?_ _ 28 HRG4.out rfl ?_); (with_reducible rfl); rfl; rfl; rfl))
              exact ⟨⟨k + 1, (t1, x1), A4, cap4, _, by omega, by go_num, HC4.out, by rw [HTL.out]; have h4 := HT4.out; simp only [List.length_append, List.length_singleton] at h4; exact h4⟩, by simp [intOf]; omega⟩
            · rw [if_neg h0] at htl
              have HTL := Lib.hid htl
              clear htl
              go_wp2_with (first
                | (go_at_call 27; (with_reducible refine (HGI.out _ _ ?_).mono ?_); exact HR.out.keep (below_keeps HT.out.below); rintro e W2 ⟨rfl, hb2⟩; have HT3 := Lib.hid (HT.out.go hb2); have d3 := row12 HT3.out.blk; have l3 := lt_of_heap HT3.out.blk; clear hb2 d12)
                | (go_at_call 25; (with_reducible refine (HSE.out _ _ ?_).mono ?_); exact HT3.out.rd; rintro e W4 ⟨t1, x1, ⟨s1, rfl, hown1, hb4⟩, hcp1⟩; (obtain ⟨A4, cap4, rfl, -⟩ := hown1.slice); have HC4 := Lib.hid hcp1; have HT4 := Lib.hid (HT3.out.store (u := (t1, x1)) hb4 hown1); have HRG4 := Lib.hid (HT3.out.go hb4).blk; clear hown1 hb4 hcp1 d3 l3)
                | ((with_reducible refine wpList_storeR (.tmp 8) (.tmp 51) ?_ ?_ g ?_ t1 x1 A4 x1.n cap4 ?_ _ 28 HRG4.out rfl ?_); (with_reducible rfl); rfl; rfl; rfl))
              exact ⟨⟨k + 1, (t1, x1), A4, cap4, _, by omega, by go_num, HC4.out, by rw [HTL.out]; exact HT4.out⟩, by simp [intOf]; omega⟩
          · rw [if_neg hsz] at htl
            have hszI : (n : Int) < size := by omega
            have HC : Hid (Cp (rmF f size (L.take (k + 1))) t) := hcp.congr fun j => by rw [hst]; exact rmF_skip (l := L.take k) hsz j
            have HT := Lib.hid hts
            have HTL := Lib.hid htl
            clear hcp hts htl hst hg hm hin e2 hbox
            go_wp2_with fail
            exact ⟨⟨k + 1, t, A', cap', S, by omega, by go_num, HC.out, by rw [HTL.out]; exact HT.out⟩, by simp [intOf]; omega⟩
        · obtain rfl : k = L.length := by omega
          rw [List.take_length] at hcp hts
          have hg8 := hts.g_
          have hgV := hts.gV
          have hC := HEND.out _ hcp
          have HY2 := Lib.hid ((hts.ex.far _ (lt_of_heap HY.out) (by omega)).trans HY.out : wr.heap[w.heap.size + 1]? = _)
          have hV2 := hts.below.size
          obtain ⟨A3, cap3, rfl, hcap3, hcap3'⟩ := hts.list.slice
          have HT := Lib.hid hts
          have d3 := row12 hts.blk
          have l3 := lt_of_heap hts.blk
          have HG3 := Lib.hid hts.blk
          have hlL : ((trL h x size L).length : Int) ≤ 1073741824 := by have := trL_len h x size L; omega
          clear hts hcp
          by_cases hz : (trL h x size L).length = 0
          · have hzb : (((trL h x size L).length : Int) == 0) = true := by simp [hz]
            have HCO : Hid (∀ cs W, RdVals W cs 12 (encR t.1 t.2) → Calls Try.prog 93 #[.agg cs] W fun e w' => ∃ (h2 : Nat) (x2 : RN) (s : Value), e = .returned (.agg (cellsR h2 x2 s)) ∧ OwnK w' x2 s (fun b => W.heap.size ≤ b) ∧ Below W.heap.size W w' ∧ Cp (cutE f size) (h2, x2)) := fun cs W hr =>
              (d_Copy cs t.1 t.2 hC.1 W hr).mono fun e w' ⟨h2, x2, s, he, ho, hb, hcc⟩ => ⟨h2, x2, s, he, ho, hb, hcc.congr hC.2⟩
            clear hz hC
            generalize hLF : trL h x size L = lf at *
            go_wp2_with (first
              | (go_at_call 93; ((with_reducible refine (HCO.out _ _ ?_).mono ?_); exact HT.out.rd; rintro e W4 ⟨t1, x1, s1, rfl, hown1, hb4, hcp1⟩; (obtain ⟨A4, cap4, rfl, -⟩ := hown1.slice); have HC4 := Lib.hid hcp1; have HT4 := Lib.hid (HT.out.store (u := (t1, x1)) hb4 hown1); have HRG4 := Lib.hid (HT.out.go hb4).blk; have HY4 := Lib.hid ((setRow_other _ _ _ (cellsR t1 x1 (.slice A4 x1.n cap4)) (by omega)).trans ((hb4.block _ (lt_of_heap HY2.out)).trans HY2.out) : (W4.setRow g _).heap[w.heap.size + 1]? = _); clear hown1 hb4 hcp1 d3 l3))
              | ((with_reducible refine wpList_storeR (.tmp 8) (.tmp 58) ?_ ?_ g ?_ t1 x1 A4 x1.n cap4 ?_ _ 28 HRG4.out rfl ?_); (with_reducible rfl); rfl; rfl; rfl; generalize hW5 : World.setRow W4 g _ = W5; rw [hW5] at HT4 HY4; have d5 := row12 HT4.out.blk; have l5 := lt_of_heap HT4.out.blk; clear hW5)
              | ((with_reducible refine wpList_storeR (.tmp 4) (.tmp 59) ?_ ?_ (w.heap.size + 1) ?_ t1 x1 A4 x1.n cap4 ?_ _ 28 HY4.out rfl ?_); (with_reducible rfl); rfl; rfl; rfl))
            refine bodyPost_ret (v := _) (results_tree3 Try.results53 _ _ (w.heap.size + 1) t1 x1 (.slice A4 x1.n cap4) _ _ rfl (setRow_heap _ _ _ _ _ _ HY4.out) rfl rfl) rfl (by rw [hf.out]; exact ⟨t1, x1, A4, cap4, _, rfl, HT4.out.fin (by omega) (by omega), HT4.out.finL (by omega) (by omega), below_setRow HT4.out.below (by omega) _, HFIN.out _ HC4.out⟩)
          · have hzb : (((trL h x size L).length : Int) == 0) = false := by simp; simpa using hz
            have HC4 := Lib.hid hC
            clear hz hC
            generalize hLF : trL h x size L = lf at *
            go_wp2_with ((with_reducible refine wpList_storeR (.tmp 4) (.tmp 59) ?_ ?_ (w.heap.size + 1) ?_ t.1 t.2 A' t.2.n cap' ?_ _ 28 HY2.out rfl ?_); (with_reducible rfl); rfl; rfl; rfl)
            refine bodyPost_ret (v := _) (results_tree3 Try.results53 _ _ (w.heap.size + 1) t.1 t.2 (.slice A' t.2.n cap') _ _ rfl (setRow_heap _ _ _ _ _ _ HY2.out) rfl rfl) rfl (by rw [hf.out]; exact ⟨t.1, t.2, A', cap', _, rfl, HT.out.fin (by omega) (by omega), HT.out.finL (by omega) (by omega), below_setRow HT.out.below (by omega) _, HFIN.out _ HC4.out⟩)
end Go.Proofs.Ytcicfijpfhbcaaa
