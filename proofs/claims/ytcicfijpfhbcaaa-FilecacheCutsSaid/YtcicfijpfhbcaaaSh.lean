/-
  A tree in memory; radix.shrink.
-/
import Derived.Test.YtcicfijpfhbcaaaUd
namespace Go.Proofs.Ytcicfijpfhbcaaa
set_option linter.unusedSimpArgs false
set_option linter.unusedVariables false
set_option linter.unusedSectionVars false
open Go.RowKit

structure TreeIn (w : World) (g : Nat) (ht : Int) (x : RN) (s : Value) (S : Nat → Prop) : Prop where
  blk : w.heap[g]? = some (.cells (cellsR ht x s) 28 (0, 0))
  own : OwnK w x s S
  out : ¬ S g

section
variable {w w' : World} {g : Nat} {ht : Int} {x : RN} {s : Value} {S S' : Nat → Prop}
theorem cellsR_row (ht : Int) (x : RN) (s : Value) : ∀ j, j < 11 → (cellsR ht x s)[1 + j]? = (cellsN x s)[j]?
  | 0, _ => rfl
  | 1, _ => rfl
  | 2, _ => rfl
  | 3, _ => rfl
  | 4, _ => rfl
  | 5, _ => rfl
  | 6, _ => rfl
  | 7, _ => rfl
  | 8, _ => rfl
  | 9, _ => rfl
  | 10, _ => rfl
  | _ + 11, h => absurd h (by omega)
theorem TreeIn.node (h : TreeIn w g ht x s S) : NodeIn w g 1 28 (cellsR ht x s) x s S := ⟨h.blk, Nat.le_refl _, cellsR_row ht x s, h.own, h.out⟩
theorem TreeIn.lt (h : TreeIn w g ht x s S) : g < w.heap.size := lt_of_heap h.blk
theorem TreeIn.below (h : TreeIn w g ht x s S) (hb : Below w.heap.size w w') : TreeIn w' g ht x s S :=
  ⟨by rw [hb.block g h.lt]; exact h.blk, h.own.frame _ fun b _ hl => hb.block b hl, h.out⟩
theorem TreeIn.h (t : TreeIn w g ht x s S) : w.cell? ⟨g, 0, none⟩ = some (.int .i64 ht) := by rw [cell_of_row _ _ _ _ _ _ t.blk]; rfl
theorem TreeIn.k (t : TreeIn w g ht x s S) : w.cell? ⟨g, 11, none⟩ = some s := by rw [cell_of_row _ _ _ _ _ _ t.blk]; rfl
theorem TreeIn.frozen (t : TreeIn w g ht x s S) (j : Nat) : w.frozen? ⟨g, j, none⟩ = false := frozen_of_row w g j _ _ t.blk
theorem TreeIn.rd (t : TreeIn w g ht x s S) : RdVals w (cellsR ht x s) 12 (encR ht x) := rdR_shut t.own.rd
theorem TreeIn.cells (t : TreeIn w g ht x s S) : ∀ j v, (cellsR ht x s).toList[j]? = some v → w.cell? ⟨g, j, none⟩ = some v := fun j v hj => by
  rw [cell_of_row _ _ _ _ _ _ t.blk]; simpa using hj
/-- Eleven cells that turn in a tree's block leave a tree. -/
theorem cellsR_eta (cs' : Array Value) (ht : Int) (y : RN) (s' : Value) (hs : cs'.size = 12) (h0 : cs'[0]? = some (.int .i64 ht)) (hr : ∀ j, j < 11 → cs'[1 + j]? = (cellsN y s')[j]?) : cs' = cellsR ht y s' := by
  apply Array.ext_getElem?
  intro i
  match i with
  | 0 => rw [h0]; rfl
  | j + 1 =>
    by_cases hj : j < 11
    · rw [show j + 1 = 1 + j by omega, hr j hj, cellsR_row _ _ _ _ hj]
    · rw [Array.getElem?_eq_none (by omega), Array.getElem?_eq_none (by show 12 ≤ j + 1; omega)]
theorem Turn.tree {y : RN} {cs' : Array Value} {s' : Value} (h : Turn w w' g 1 28 (cellsR ht x s) S y cs' s' S') : TreeIn w' g ht y s' S' := by
  have e := cellsR_eta cs' ht y s' (by rw [h.size]; rfl) (by rw [h.out 0 (by omega)]; rfl) h.node.row
  subst e
  exact ⟨h.node.blk, h.node.own, h.node.out⟩
theorem TreeIn.setH (t : TreeIn w g ht x s S) (k : Int) : TreeIn (w.setCell ⟨g, 0, none⟩ (.int .i64 k)) g k x s S :=
  ⟨by rw [heap_setCell_same w g _ _ _ _ t.blk]; rfl, t.own.frame _ fun b hb _ => heap_setCell_other w _ b _ (fun e => t.out ((show b = g from e) ▸ hb)), t.out⟩
theorem putAt_R (ht : Int) (x y : RN) (s s' : Value) : putAt (cellsR ht x s) 1 (cellsN y s') = cellsR ht y s' := rfl
/-- The tree's node is replaced by its child. -/
theorem TreeIn.putN {y : RN} {s' : Value} (t : TreeIn w g ht x s S) (hy : OwnK w y s' S') (hS : ∀ b, S' b → S b) : TreeIn (w.setRow g (putAt (cellsR ht x s) 1 (cellsN y s'))) g ht y s' S' :=
  ⟨by rw [setRow_heap w g _ _ _ _ t.blk, putAt_R], hy.frame _ fun b hb _ => setRow_other w g b _ (fun e => t.out (hS g (e ▸ hb))), fun hg => t.out (hS g hg)⟩
end

theorem Mod.setCell (w : World) (g j : Nat) (v : Value) : Mod (fun b => b = g) w (w.setCell ⟨g, j, none⟩ v) := ⟨rfl, rfl, rfl, by simp, fun k _ hn => heap_setCell_other w _ k _ hn⟩
theorem Mod.setRow (w : World) (g : Nat) (cs : Array Value) : Mod (fun b => b = g) w (w.setRow g cs) := ⟨rfl, rfl, rfl, by simp, fun k _ hn => setRow_other w g k _ hn⟩
theorem Mod.below_ {G : Nat → Prop} {a b c : World} (h : Mod G a b) (k : Below b.heap.size b c) : Mod G a c :=
  h.trans (G' := fun _ => False) ⟨k.os, k.tape, k.output, k.size, fun i hi _ => k.block i hi⟩ (fun _ _ h => h.elim)
theorem OwnAt.cells {w : World} {x : RN} {s : Value} {S : Nat → Prop} {g cap : Nat} {cs : Array Value} {T : Nat → Nat → Prop} {sk : Nat → Value} (h : OwnAt w x s S g cap cs T sk) {i : Nat} (hi : i < x.n) :
    ∀ j v, (cellsN (x.kid i) (sk i)).toList[j]? = some v → w.cell? ⟨g, i * 11 + j, none⟩ = some v := by
  intro j v hj
  have h1 : j < 11 := by
    rcases Nat.lt_or_ge j 11 with h2 | h2
    · exact h2
    · rw [List.getElem?_eq_none (by rw [Array.length_toList]; exact h2)] at hj; cases hj
  rw [cell_of_row _ _ _ _ _ _ h.blk, h.row i hi j h1]
  simpa using hj
theorem sizeR : (Try.prog.info? 28).map (·.size) = some 12 := by kernel_rfl
/-- The load of a whole tree. -/
theorem wpList_loadR {ops : Array Oper} {rest : List Oper} {o : Oper} {a : Act} {w : World} {Q : Exit → Act → World → Prop} (x : Operand) (ho : o.op = .load 28 x) (hw : Region.wanted o (yielded ops a.tmps) = true)
    (g : Nat) (hx : a.eval x = .pointer (some ⟨g, 0, none⟩)) (ht : Int) (y : RN) (s : Value) (hc : ∀ j v, (cellsR ht y s).toList[j]? = some v → w.cell? ⟨g, j, none⟩ = some v)
    (h : wpList Try.prog ops Q rest (a.put o.dst (.agg (cellsR ht y s))) w) : wpList Try.prog ops Q (o :: rest) a w :=
  wpList_step fun K hK => by rw [if_pos hw]; exact wp_load_cells 28 x ho _ hx (cellsR ht y s) _ (fun j v hj => by rw [addr_add_mk, Nat.zero_add]; exact hc j v hj) Try.underlying28 rfl sizeR (hK _ _ h)
/-- A tree is stored into a variable of its own block. -/
theorem wpList_storeR {ops : Array Oper} {rest : List Oper} {o : Oper} {a : Act} {w : World} {Q : Exit → Act → World → Prop} (x z : Operand) (ho : o.op = .store 28 x z) (hw : Region.wanted o (yielded ops a.tmps) = true)
    (g : Nat) (hx : a.eval x = .pointer (some ⟨g, 0, none⟩)) (ht : Int) (y : RN) (A : Option Addr) (len cap : Nat) (hz : a.eval z = .agg (cellsR ht y (.slice A len cap))) (old : Array Value) (t : TypeId) (hg : w.heap[g]? = some (.cells old t (0, 0))) (hold : old.size = 12)
    (h : wpList Try.prog ops Q rest (a.put o.dst undef) (w.setRow g (cellsR ht y (.slice A len cap)))) : wpList Try.prog ops Q (o :: rest) a w :=
  wpList_step fun K hK => by rw [if_pos hw]; exact wp_store_row 28 x z ho g _ hx hz t old hg sizeR hold (by simp [cellsR]; exact ⟨rfl, rfl, rfl, rfl, rfl, rfl, rfl, rfl, rfl, rfl, rfl, rfl⟩) (hK _ _ h)

/-- The least height. -/
def shrinkL : Nat → RN → Nat × RN
  | 0, x => (0, x)
  | 1, x => (1, x)
  | m + 2, x => if laterTo x 7 = true then (m + 2, x) else shrinkL (m + 1) (x.kid 0)
def shrinkP (m : Nat) (x : RN) : Nat × RN := if emptyB x = true then (0, zeroN) else shrinkL m x
/-- The nodes that are lowered have eight children. -/
def tallB : Nat → RN → Prop
  | 0, _ => True
  | 1, _ => True
  | m + 2, x => x.n = 8 ∧ (laterTo x 7 = false → tallB (m + 1) (x.kid 0))

def Shrunk (w : World) (g : Nat) (S : Nat → Prop) (p : Nat × RN) (e : Ending) (w' : World) : Prop :=
  e = .returned (.tuple #[]) ∧ ∃ s' S', TreeIn w' g p.1 p.2 s' S' ∧ Mod (fun b => b = g) w w' ∧ ∀ b, S' b → S b

set_option maxRecDepth 100000 in
set_option maxHeartbeats 1000000 in
theorem p_shrink (m : Nat) (hm : 1 ≤ m) (hm' : m ≤ 10) (x : RN) (g : Nat) (s : Value) (S : Nat → Prop) (w : World) (h : TreeIn w g m x s S) (ht : emptyB x = false → tallB m x) :
    Calls Try.prog 76 #[.pointer (some ⟨g, 0, none⟩)] w (Shrunk w g S (shrinkP m x)) := by
  have c0 := h.h
  have c11 := h.k
  have hgl := h.lt
  have f0 := h.frozen 0
  obtain ⟨A, cap, rfl, hcap, hmax⟩ := h.own.slice
  have HT := Lib.hid h
  have HC := Lib.hid h.node.cells
  have hm1 : (0 : Int) < (m : Int) := by omega
  clear h
  cases he : emptyB x
  · have ht := ht he
    have hp : shrinkP m x = shrinkL m x := by unfold shrinkP; rw [he]; rfl
    rw [hp]
    go_enter Try.func76, Try.ntmps76
    go_wp2_with (first
      | ((with_reducible refine wpList_loadN (.tmp 12) ?_ ?_ (g) (1) ?_ (x) (.slice A x.n cap) ?_ ?_); (with_reducible rfl); rfl; rfl; (intro j v hj; exact below_keeps (by (repeat' (first | (with_reducible exact Below.refl _ _) | (with_reducible assumption) | (with_reducible refine below_plus ?_ ?_ _) | (with_reducible refine Below.alloc ?_ ?_ _) | (with_reducible refine Below.drew ?_) | (with_reducible refine below_drewN ?_ _) | (with_reducible refine Below.setCell ?_ ?_ _) | (first | omega | (simp only [World.size_alloc, size_plus, World.size_drew, World.size_setCell] <;> omega) | (simp <;> omega)) | omega | (simp; omega)))) _ _ (HC.out j v hj)))
      | (go_at_call 100; refine (p_empty _ _ _ (rdN_shut HT.out.own.rd)).mono ?_; rintro e W3 ⟨rfl, hb⟩; rw [he]))
    go_loopw [] (fun wr => ∃ (k : Nat) (y : RN) (s' : Value) (S' : Nat → Prop), 1 ≤ k ∧ k ≤ 10 ∧ TreeIn wr g k y s' S' ∧ tallB k y ∧ shrinkL k y = shrinkL m x ∧ (∀ b, S' b → S b) ∧ Mod (fun b => b = g) w wr)
      (fun wr => (intOf ((wr.cell? ⟨g, 0, none⟩).getD undef)).toNat)
    case atStart => exact ⟨m, x, _, S, hm, hm', HT.out.below hb, ht, rfl, fun _ h => h, Mod.of_below hb fun k hk hk' => absurd hk (by omega)⟩
    case round =>
      obtain ⟨k, y, s', S', k1, k10, hT, htall, hsh, hsub, hmod⟩ := hrel
      have d0 := hT.h
      have d11 := hT.k
      have e0 := hT.frozen 0
      have hgw := hT.lt
      obtain ⟨A2, cap2, rfl, hcap2, hmax2⟩ := hT.own.slice
      have HTT := Lib.hid hT
      have HSUB := Lib.hid hsub
      have HMOD := Lib.hid hmod
      by_cases hk1 : k = 1
      · subst hk1
        go_wp2_with fail
        go_end0
        have hsh' : shrinkL m x = (1, y) := hsh.symm
        rw [hsh']
        exact ⟨rfl, _, S', HTT.out, HMOD.out, HSUB.out⟩
      · obtain ⟨q, rfl⟩ : ∃ q, k = q + 2 := ⟨k - 2, by omega⟩
        have hk2 : (1 : Int) < ((q + 2 : Nat) : Int) := by omega
        have hy8 : y.n = 8 := htall.1
        rcases OwnK_iff.1 hT.own with ⟨h0, -⟩ | ⟨gk, cap3, csk, T, sk, hA⟩
        · omega
        have hval := hA.val
        rw [hy8] at hval d11 HTT hcap2
        injection hval with e1 _ e3
        subst e1 e3
        have HAT := Lib.hid hA
        have HTALL := Lib.hid htall.2
        have HSH := Lib.hid hsh
        have hc8 : 8 ≤ cap2 := hcap2
        have hgkl : gk < wr.heap.size := lt_of_heap hA.blk
        clear hT hA htall hsh hsub hmod hmax2
        go_wp2_with fail
        go_loopw [31] (fun i wr2 => ∃ z : Nat, z ≤ 7 ∧ i = .int .i64 z ∧ laterTo y z = false ∧ ∃ X, wr2 = wr.plus X) (fun i _ => 7 - (intOf i).toNat)
        case atStart => exact ⟨0, by omega, rfl, rfl, ⟨#[], wr.drawn⟩, (plus_self wr).symm⟩
        case round =>
          obtain ⟨z, hz, rfl, hlz, Y, rfl⟩ := hrel
          by_cases hlt : z < 7
          · have hck := HAT.out.cells (i := z + 1) (by omega)
            have hok := HAT.out.kid (z + 1) (by omega)
            obtain ⟨A4, cap4, hsk, -, -⟩ := hok.slice
            rw [hsk] at hck hok
            rw [show (z + 1) * 11 = 11 + z * 11 from by omega] at hck
            have HC4 := Lib.hid hck
            have HV4 := Lib.hid (rdN_shut hok.rd)
            have hz7 : (z : Int) < 7 := by omega
            clear hck hok
            cases ha : absentB (y.kid (z + 1))
            all_goals
              go_wp2_with (first
                | ((with_reducible refine wpList_loadN (.tmp 33) ?_ ?_ (gk) (11 + z * 11) ?_ (y.kid (z + 1)) (.slice A4 (y.kid (z + 1)).n cap4) ?_ ?_); (with_reducible rfl); rfl; rfl; (intro j v hj; exact below_keeps (by (repeat' (first | (with_reducible exact Below.refl _ _) | (with_reducible assumption) | (with_reducible refine below_plus ?_ ?_ _) | (with_reducible refine Below.alloc ?_ ?_ _) | (with_reducible refine Below.drew ?_) | (with_reducible refine below_drewN ?_ _) | (with_reducible refine Below.setCell ?_ ?_ _) | (first | omega | (simp only [World.size_alloc, size_plus, World.size_drew, World.size_setCell] <;> omega) | (simp <;> omega)) | omega | (simp; omega)))) _ _ (HC4.out j v hj)))
                | ((with_reducible refine wpList_storeN_new (.tmp 3) (.tmp 34) ?_ ?_ (wr.heap.size + Y.objs.size) ?_ (y.kid (z + 1)) A4 (y.kid (z + 1)).n cap4 ?_ ?_ ?_ ?_); (with_reducible rfl); rfl; rfl; rfl; rfl; (focus (first | omega | (simp only [World.size_alloc, size_plus, World.size_drew, World.size_setCell] <;> omega) | (simp <;> omega))))
                | (go_at_call 67; refine (p_absent _ (y.kid (z + 1)) _ ?_).mono ?_; exact HV4.out.keep (below_keeps (by (repeat' (first | (with_reducible exact Below.refl _ _) | (with_reducible assumption) | (with_reducible refine below_plus ?_ ?_ _) | (with_reducible refine Below.alloc ?_ ?_ _) | (with_reducible refine Below.drew ?_) | (with_reducible refine below_drewN ?_ _) | (with_reducible refine Below.setCell ?_ ?_ _) | (first | omega | (simp only [World.size_alloc, size_plus, World.size_drew, World.size_setCell] <;> omega) | (simp <;> omega)) | omega | (simp; omega))))); rintro e w' ⟨rfl, hb⟩; (first | (obtain ⟨X, rfl⟩ := plus_again hb) | (obtain ⟨X, rfl⟩ := plus_of_below hb)); clear hb; rw [ha]))
              first
                | exact ⟨⟨z + 1, by omega, by go_num, by rw [laterTo_succ, hlz, ha]; rfl, plus_of_below (by (repeat' (first | (with_reducible exact Below.refl _ _) | (with_reducible assumption) | (with_reducible refine below_plus ?_ ?_ _) | (with_reducible refine Below.alloc ?_ ?_ _) | (with_reducible refine Below.drew ?_) | (with_reducible refine below_drewN ?_ _) | (with_reducible refine Below.setCell ?_ ?_ _) | (first | omega | (simp only [World.size_alloc, size_plus, World.size_drew, World.size_setCell] <;> omega) | (simp <;> omega)) | omega | (simp; omega))))⟩, by simp [intOf]; omega⟩
                | (refine bodyPost_ret (results_none rfl _ _ _) rfl ?_
                   have hsh' : shrinkL m x = (q + 2, y) := by rw [← HSH.out, shrinkL, if_pos (laterTo_of hlt ha)]
                   rw [hsh']
                   have hbb : Below wr.heap.size wr (((wr.plus Y).alloc (.cells (cellsN (y.kid (z + 1)) (.slice A4 (y.kid (z + 1)).n cap4)) 26)).plus X) := by (repeat' (first | (with_reducible exact Below.refl _ _) | (with_reducible assumption) | (with_reducible refine below_plus ?_ ?_ _) | (with_reducible refine Below.alloc ?_ ?_ _) | (with_reducible refine Below.drew ?_) | (with_reducible refine below_drewN ?_ _) | (with_reducible refine Below.setCell ?_ ?_ _) | (first | omega | (simp only [World.size_alloc, size_plus, World.size_drew, World.size_setCell] <;> omega) | (simp <;> omega)) | omega | (simp; omega)))
                   exact ⟨rfl, _, S', HTT.out.below hbb, HMOD.out.below_ hbb, HSUB.out⟩)
          · obtain rfl : z = 7 := by omega
            have hTY := HTT.out.below (below_plus (Below.refl _ _) (Nat.le_refl _) Y)
            have hck := HAT.out.cells (i := 0) (by omega)
            have hok := HAT.out.kid 0 (by omega)
            obtain ⟨A4, cap4, hsk, -, -⟩ := hok.slice
            rw [hsk] at hck hok
            rw [Nat.zero_mul] at hck
            have HC4 := Lib.hid hck
            have hT5 := hTY.putN (hok.frame (w' := wr.plus Y) _ fun b _ hl => heap_plus _ _ _ hl) (fun b hb => (HAT.out.sub 0 (by omega) b hb).1)
            have hM5 : Mod (fun b => b = g) w ((wr.plus Y).setRow g (putAt (cellsR (((q + 2 : Nat) : Int)) y (.slice (some ⟨gk, 0, none⟩) 8 cap2)) 1 (cellsN (y.kid 0) (.slice A4 (y.kid 0).n cap4)))) :=
              (HMOD.out.below_ (below_plus (Below.refl _ _) (Nat.le_refl _) Y)).trans (Mod.setRow _ g _) (fun _ _ h => h)
            have HTY := Lib.hid hTY
            have HT5 := Lib.hid hT5
            have HM5 := Lib.hid hM5
            clear hck hok hTY hT5 hM5
            go_wp2_with (first
              | ((with_reducible refine wpList_loadN (.tmp 45) ?_ ?_ (gk) (0) ?_ (y.kid 0) (.slice A4 (y.kid 0).n cap4) ?_ ?_); (with_reducible rfl); rfl; rfl; (intro j v hj; exact below_keeps (by (repeat' (first | (with_reducible exact Below.refl _ _) | (with_reducible assumption) | (with_reducible refine below_plus ?_ ?_ _) | (with_reducible refine Below.alloc ?_ ?_ _) | (with_reducible refine Below.drew ?_) | (with_reducible refine below_drewN ?_ _) | (with_reducible refine Below.setCell ?_ ?_ _) | (first | omega | (simp only [World.size_alloc, size_plus, World.size_drew, World.size_setCell] <;> omega) | (simp <;> omega)) | omega | (simp; omega)))) _ _ (HC4.out j v hj)))
              | ((with_reducible refine wpList_storeN_mid (.tmp 48) (.tmp 46) ?_ ?_ g 1 ?_ (y.kid 0) A4 (y.kid 0).n cap4 ?_ _ 28 HTY.out.blk (Nat.le_refl _) ?_); (with_reducible rfl); rfl; rfl; rfl
                 generalize World.setRow (wr.plus Y) _ _ = W5 at HT5 HM5 ⊢
                 have d5 := HT5.out.h
                 have g5 := HT5.out.frozen 0))
            have hfin : TreeIn (W5.setCell ⟨g, 0, none⟩ (.int .i64 ((q : Int) + 2 - 1))) g ((q + 1 : Nat) : Int) (y.kid 0) (.slice A4 (y.kid 0).n cap4) (T 0) := by
              rw [show ((q + 1 : Nat) : Int) = (q : Int) + 2 - 1 by omega]; exact HT5.out.setH _
            refine ⟨⟨q + 1, y.kid 0, _, T 0, by omega, by omega, hfin, HTALL.out hlz, ?_, fun b hb => HSUB.out b (HAT.out.sub 0 (by omega) b hb).1, HM5.out.trans (Mod.setCell _ g 0 _) (fun _ _ h => h)⟩, ?_⟩
            · rw [← HSH.out, shrinkL, if_neg (by rw [hlz]; decide)]
            · rw [hfin.h, d0]; simp [intOf]
  · have hp : shrinkP m x = (0, zeroN) := by unfold shrinkP; rw [he]; rfl
    rw [hp]
    go_enter Try.func76, Try.ntmps76
    go_wp2_with (first
      | ((with_reducible refine wpList_loadN (.tmp 12) ?_ ?_ (g) (1) ?_ (x) (.slice A x.n cap) ?_ ?_); (with_reducible rfl); rfl; rfl; (intro j v hj; exact below_keeps (by (repeat' (first | (with_reducible exact Below.refl _ _) | (with_reducible assumption) | (with_reducible refine below_plus ?_ ?_ _) | (with_reducible refine Below.alloc ?_ ?_ _) | (with_reducible refine Below.drew ?_) | (with_reducible refine below_drewN ?_ _) | (with_reducible refine Below.setCell ?_ ?_ _) | (first | omega | (simp only [World.size_alloc, size_plus, World.size_drew, World.size_setCell] <;> omega) | (simp <;> omega)) | omega | (simp; omega)))) _ _ (HC.out j v hj)))
      | (go_at_call 100; refine (p_empty _ _ _ (rdN_shut HT.out.own.rd)).mono ?_; rintro e W3 ⟨rfl, hb⟩; rw [he]
         have hT3 := HT.out.below hb)
      | ((with_reducible refine wpList_storeR (.tmp 18) (.tmp 17) ?_ ?_ g ?_ 0 zeroN none 0 0 ?_ _ 28 hT3.blk rfl ?_); (with_reducible rfl); rfl; rfl; rfl))
    refine bodyPost_ret (results_none rfl _ _ _) rfl ?_
    exact ⟨rfl, _, S, TreeIn.mk (setRow_heap W3 g _ _ _ _ hT3.blk) (OwnK.none_ rfl) hT3.out, (Mod.of_below hb fun k hk hk' => absurd hk (by omega)).trans (Mod.setRow _ g _) (fun _ _ h => h), fun _ h => h⟩
end Go.Proofs.Ytcicfijpfhbcaaa
