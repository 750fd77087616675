/-
  The script's one operation: the law's play.
-/
import Derived.Test.YtcicfijpfhbcaaaQn
import Derived.Test.YtcicfijpfhbcaaaOn
import Derived.Test.YtcicfijpfhbcaaaCk
import Derived.Deep.CutBlock
import Derived.Deep.DeepCutAuto
namespace Go.Proofs.Ytcicfijpfhbcaaa
set_option linter.unusedSimpArgs false
set_option linter.unusedVariables false
set_option linter.unusedSectionVars false
open Go.RowKit

theorem sizePg : (Try.prog.info? 59).map (·.size) = some 3 := by kernel_rfl
theorem mapAt_row {w : World} {gm i : Nat} {m : Nat → Pg} {p : Pg} {row : Array Value} (hr : MapR row m) (hi : i < 24) : MapR (putAt row (i * 3) #[.int .i64 p.1, .int .i64 p.2.1, .bool p.2.2]) (updM m i p) := by
  obtain ⟨h2, h3⟩ := hr
  have hsz : i * 3 + (#[.int .i64 p.1, .int .i64 p.2.1, .bool p.2.2] : Array Value).size ≤ row.size := by rw [h2]; show i * 3 + 3 ≤ 72; omega
  refine ⟨by rw [putAt_size row _ hsz, h2], fun a ha b hb => ?_⟩
  by_cases ea : a = i
  · subst ea
    rw [updM_same, putAt_in row _ hsz (by show b < 3; exact hb)]
    match b, hb with
    | 0, _ => rfl
    | 1, _ => rfl
    | 2, _ => rfl
  · rw [updM_other _ _ _ ea, putAt_out row _ hsz (by show _ ∨ i * 3 + 3 ≤ _; omega), h3 a ha b hb]
theorem wpList_storePg {ops : Array Oper} {rest : List Oper} {o : Oper} {a : Act} {w : World} {Q : Exit → Act → World → Prop} (x z : Operand) (ho : o.op = .store 59 x z) (hw : Region.wanted o (yielded ops a.tmps) = true)
    (gm i : Nat) (hx : a.eval x = .pointer (some ⟨gm, i * 3, none⟩)) (p : Pg) (hz : a.eval z = .agg #[.int .i64 p.1, .int .i64 p.2.1, .bool p.2.2]) {m : Nat → Pg} (hm : MapAt w gm m) (hi : i < 24)
    (h : ∀ W, MapAt W gm (updM m i p) → MTn gm w W → wpList Try.prog ops Q rest (a.put o.dst undef) W) : wpList Try.prog ops Q (o :: rest) a w := by
  obtain ⟨row, hg, hr⟩ := hm
  have h' := h (w.setRow gm (putAt row (i * 3) #[.int .i64 p.1, .int .i64 p.2.1, .bool p.2.2])) ⟨_, setRow_heap _ _ _ _ _ _ hg, mapAt_row (w := w) (gm := gm) hr hi⟩ ((MTn.refl _ _).row _)
  refine wpList_step fun K hK => ?_
  rw [if_pos hw]
  have hs := run_storeCells_at (P := Try.prog) gm (i * 3) 60 [.int .i64 p.1, .int .i64 p.2.1, .bool p.2.2] 0 row w hg (by rw [hr.1]; show i * 3 + 0 + 3 ≤ 72; omega) (fun v hv => by simp at hv; rcases hv with rfl | rfl | rfl <;> rfl)
  have hv : (storeVar 59 ⟨gm, i * 3, none⟩ (.agg #[.int .i64 p.1, .int .i64 p.2.1, .bool p.2.2])).run Try.prog w = .ok () (w.setRow gm (putAt row (i * 3) #[.int .i64 p.1, .int .i64 p.2.1, .bool p.2.2])) := by
    cases hq : Try.prog.info? 59 with
    | none => have := sizePg; simp [hq] at this
    | some i =>
      have hs2 : 3 = i.size := by have := sizePg; simp [hq] at this; exact this.symm
      simp only [Nat.add_zero] at hs
      simp [storeVar, Sem.run_bind, sizeOf, typeInfo, hq, Value.cells, ← hs2, hs, putAt]
  unfold Oper.wp execOp
  simp only [ho, hx, hz, Instr.storeAt, Instr.sureAddr, Sem.run_bind, Sem.run_pure, Result.andThen_ok, hv]
  exact hK _ _ h'

/-- Where play stands: its boxes, the map, the tree. -/
structure PlS (w : World) (gm : Nat) (m : Nat → Pg) (n : Nat) (kd f : Int) (t : Nat × RN) (A : Option Addr) (cap : Nat) (S : Nat → Prop) (wr : World) : Prop where
  bx : wr.heap[w.heap.size]? = some (.cells (cellsR t.1 t.2 (.slice A t.2.n cap)) 28 (0, 0))
  bo : wr.heap[w.heap.size + 1]? = some (.cells #[.int .i64 kd, .int .i64 n, .int .i64 f] 62 (0, 0))
  br : wr.heap[w.heap.size + 2]? = some (.cells (cellsR 0 zeroN (.slice none 0 0)) 28 (0, 0))
  mp : MapAt wr gm m
  tn : MTn gm w wr
  own : OwnK wr t.2 (.slice A t.2.n cap) S
  gw : gm < w.heap.size
  nS : ¬ S gm
  Sw : ∀ b, S b → b < w.heap.size
  n24 : n < 24
section
variable {w wr W : World} {gm n : Nat} {m : Nat → Pg} {kd f : Int} {t u : Nat × RN} {A B : Option Addr} {cap c : Nat} {S S' : Nat → Prop}
theorem PlS.lt (h : PlS w gm m n kd f t A cap S wr) : w.heap.size + 2 < wr.heap.size := lt_of_heap h.br
theorem PlS.stay (h : PlS w gm m n kd f t A cap S wr) (hb : Below wr.heap.size wr W) : PlS w gm m n kd f t A cap S W :=
  ⟨(hb.block _ (lt_of_heap h.bx)).trans h.bx, (hb.block _ (lt_of_heap h.bo)).trans h.bo, (hb.block _ (lt_of_heap h.br)).trans h.br, h.mp.keep (hb.block _ h.mp.lt), h.tn.go hb (Nat.le_refl _), h.own.frame _ fun b _ hl => hb.block b hl, h.gw, h.nS, h.Sw, h.n24⟩
theorem PlS.row (h : PlS w gm m n kd f t A cap S wr) {q : Nat} (hq : w.heap.size + 2 < q) (cs : Array Value) : PlS w gm m n kd f t A cap S (wr.setRow q cs) := by
  have hg := h.gw
  have o : ∀ b, b ≤ w.heap.size + 2 → (wr.setRow q cs).heap[b]? = wr.heap[b]? := fun b hb => setRow_other _ _ _ _ (by omega)
  exact ⟨(o _ (by omega)).trans h.bx, (o _ (by omega)).trans h.bo, (o _ (by omega)).trans h.br, h.mp.keep (o _ (by omega)), h.tn.rowNew (by omega) _, h.own.frame _ fun b hb _ => o b (by have := h.Sw b hb; omega), h.gw, h.nS, h.Sw, h.n24⟩
theorem PlS.turn {m' : Nat → Pg} (h : PlS w gm m n kd f t A cap S wr) (hm : MapAt W gm m') (ht : MTn gm wr W) : PlS w gm m' n kd f t A cap S W := by
  have hg := h.gw
  have hl := h.lt
  exact ⟨(ht.far _ (by omega) (by omega)).trans h.bx, (ht.far _ (by omega) (by omega)).trans h.bo, (ht.far _ (by omega) (by omega)).trans h.br, hm, h.tn.trans ht, ht.own h.own h.nS, h.gw, h.nS, h.Sw, h.n24⟩
theorem PlS.rd (h : PlS w gm m n kd f t A cap S wr) : RdVals wr (cellsR t.1 t.2 (.slice A t.2.n cap)) 12 (encR t.1 t.2) := rdR_shut h.own.rd
theorem PlS.o (h : PlS w gm m n kd f t A cap S wr) : wr.cell? ⟨w.heap.size + 1, 0, none⟩ = some (.int .i64 kd) ∧ wr.cell? ⟨w.heap.size + 1, 1, none⟩ = some (.int .i64 n) ∧ wr.cell? ⟨w.heap.size + 1, 2, none⟩ = some (.int .i64 f) := by
  have hc : ∀ j, wr.cell? ⟨w.heap.size + 1, j, none⟩ = (#[.int .i64 kd, .int .i64 n, .int .i64 f] : Array Value)[j]? := fun j => cell_of_row _ _ _ _ _ _ h.bo
  exact ⟨hc 0, hc 1, hc 2⟩
theorem PlS.p (h : PlS w gm m n kd f t A cap S wr) : (wr.cell? ⟨gm, n * 3, none⟩ = some (.int .i64 (m n).1) ∧ wr.cell? ⟨gm, n * 3 + 1, none⟩ = some (.int .i64 (m n).2.1) ∧ wr.cell? ⟨gm, n * 3 + 2, none⟩ = some (.bool (m n).2.2)) ∧
    (wr.frozen? ⟨gm, n * 3, none⟩ = false ∧ wr.frozen? ⟨gm, n * 3 + 1, none⟩ = false ∧ wr.frozen? ⟨gm, n * 3 + 2, none⟩ = false) ∧ w.heap.size + 2 < wr.heap.size ∧ gm < wr.heap.size :=
  ⟨⟨h.mp.cell (j := 0) h.n24 (by omega), h.mp.cell (j := 1) h.n24 (by omega), h.mp.cell (j := 2) h.n24 (by omega)⟩, ⟨h.mp.frozen _, h.mp.frozen _, h.mp.frozen _⟩, h.lt, h.mp.lt⟩
theorem PlS.done (h : PlS w gm m n kd f t A cap S W) (hm : okM m) (hc : Cp (mF m) t) (cs : Array Value) : PlayPost gm S w (.returned (.tuple #[.agg (cellsR t.1 t.2 (.slice A t.2.n cap)), .bool true])) (W.setRow (w.heap.size + 2) cs) := by
  have hg := h.gw
  exact ⟨t, A, cap, S, m, rfl, hm, hc, h.mp.keep (setRow_other _ _ _ _ (by omega)), h.own.frame _ fun b hb _ => setRow_other _ _ _ _ (by have := h.Sw b hb; omega), fun b hb => .inl hb, h.tn.rowNew (by omega) _⟩
theorem PlS.doneNew {V : Nat} (h : PlS w gm m n kd f t A cap S W) (hm : okM m) (hc : Cp (mF m) u) (ho : OwnK W u.2 (.slice B u.2.n c) (fun b => V ≤ b)) (hV : w.heap.size + 2 < V) (cs : Array Value) : PlayPost gm S w (.returned (.tuple #[.agg (cellsR u.1 u.2 (.slice B u.2.n c)), .bool true])) (W.setRow (w.heap.size + 2) cs) := by
  have hg := h.gw
  exact ⟨u, B, c, _, m, rfl, hm, hc, h.mp.keep (setRow_other _ _ _ _ (by omega)), ho.frame _ fun b hb _ => setRow_other _ _ _ _ (by omega), fun b hb => .inr (by omega), h.tn.rowNew (by omega) _⟩
end

set_option maxRecDepth 100000 in
set_option maxHeartbeats 3000000 in
theorem m_play1 (t : Nat × RN) (A : Option Addr) (cap : Nat) (S : Nat → Prop) (m : Nat → Pg) (gm : Nat) (o : OpW) (w : World) (hm : okM m) (hc : Cp (mF m) t) (hM : MapAt w gm m) (hO : OwnK w t.2 (.slice A t.2.n cap) S) (hS : ¬ S gm) (hSw : ∀ b, S b → b < w.heap.size) :
    Calls Try.prog 64 #[.agg (cellsR t.1 t.2 (.slice A t.2.n cap)), .pointer (some ⟨gm, 0, none⟩), .agg #[.int .i64 o.1, .int .i64 o.2.1, .int .i64 o.2.2]] w (PlayPost gm S w) := by
  obtain ⟨kd, ix, f⟩ := o
  have hgw := hM.lt
  by_cases c1 : ix < 0
  · skip
    have HE : Hid (∀ W', Below w.heap.size w W' → PlayPost gm S w (.returned (.tuple #[.agg (cellsR t.1 t.2 (.slice A t.2.n cap)), .bool true])) W') := fun W' hb => play_same hm hc hM hO hb
    clear hm hc hM hO hS hSw hgw
    go_enter Try.func64, Try.ntmps64
    go_wp2_with ((with_reducible refine wpList_storeR_new (.tmp 6) (.tmp 32) ?_ ?_ (w.heap.size + 1 + 1) ?_ t.1 t.2 A t.2.n cap ?_ rfl ?_ ?_); (with_reducible rfl); rfl; rfl; rfl; (focus (first | omega | (simp only [World.size_alloc, size_plus, World.size_drew, World.size_setCell] <;> omega) | (simp <;> omega))))
    refine bodyPost_ret (v := _) (results_tree Try.results64 _ _ (w.heap.size + 1 + 1) t.1 t.2 (.slice A t.2.n cap) _ rfl ?_ rfl) rfl (HE.out _ (by (repeat' (first | (with_reducible exact Below.refl _ _) | (with_reducible assumption) | (with_reducible refine below_plus ?_ ?_ _) | (with_reducible refine Below.alloc ?_ ?_ _) | (with_reducible refine Below.drew ?_) | (with_reducible refine below_drewN ?_ _) | (with_reducible refine Below.setCell ?_ ?_ _) | (first | omega | (simp only [World.size_alloc, size_plus, World.size_drew, World.size_setCell] <;> omega) | (simp <;> omega)) | omega | (simp; omega)))))
    (repeat' (first | (refine heap_alloc_here _ _ _ ?_; (first | omega | (simp only [World.size_alloc, size_plus, World.size_drew, World.size_setCell] <;> omega) | (simp <;> omega))) | (refine (heap_alloc_old _ _ _ ?_).trans ?_; (first | omega | (simp only [World.size_alloc, size_plus, World.size_drew, World.size_setCell] <;> omega) | (simp <;> omega))) | (refine (heap_plus _ _ _ ?_).trans ?_; (first | omega | (simp only [World.size_alloc, size_plus, World.size_drew, World.size_setCell] <;> omega) | (simp <;> omega))) | rfl))
  by_cases c2 : 24 ≤ ix
  · skip
    have HE : Hid (∀ W', Below w.heap.size w W' → PlayPost gm S w (.returned (.tuple #[.agg (cellsR t.1 t.2 (.slice A t.2.n cap)), .bool true])) W') := fun W' hb => play_same hm hc hM hO hb
    clear hm hc hM hO hS hSw hgw
    go_enter Try.func64, Try.ntmps64
    go_wp2_with ((with_reducible refine wpList_storeR_new (.tmp 6) (.tmp 32) ?_ ?_ (w.heap.size + 1 + 1) ?_ t.1 t.2 A t.2.n cap ?_ rfl ?_ ?_); (with_reducible rfl); rfl; rfl; rfl; (focus (first | omega | (simp only [World.size_alloc, size_plus, World.size_drew, World.size_setCell] <;> omega) | (simp <;> omega))))
    refine bodyPost_ret (v := _) (results_tree Try.results64 _ _ (w.heap.size + 1 + 1) t.1 t.2 (.slice A t.2.n cap) _ rfl ?_ rfl) rfl (HE.out _ (by (repeat' (first | (with_reducible exact Below.refl _ _) | (with_reducible assumption) | (with_reducible refine below_plus ?_ ?_ _) | (with_reducible refine Below.alloc ?_ ?_ _) | (with_reducible refine Below.drew ?_) | (with_reducible refine below_drewN ?_ _) | (with_reducible refine Below.setCell ?_ ?_ _) | (first | omega | (simp only [World.size_alloc, size_plus, World.size_drew, World.size_setCell] <;> omega) | (simp <;> omega)) | omega | (simp; omega)))))
    (repeat' (first | (refine heap_alloc_here _ _ _ ?_; (first | omega | (simp only [World.size_alloc, size_plus, World.size_drew, World.size_setCell] <;> omega) | (simp <;> omega))) | (refine (heap_alloc_old _ _ _ ?_).trans ?_; (first | omega | (simp only [World.size_alloc, size_plus, World.size_drew, World.size_setCell] <;> omega) | (simp <;> omega))) | (refine (heap_plus _ _ _ ?_).trans ?_; (first | omega | (simp only [World.size_alloc, size_plus, World.size_drew, World.size_setCell] <;> omega) | (simp <;> omega))) | rfl))
  by_cases c3 : f < 0
  · skip
    have HE : Hid (∀ W', Below w.heap.size w W' → PlayPost gm S w (.returned (.tuple #[.agg (cellsR t.1 t.2 (.slice A t.2.n cap)), .bool true])) W') := fun W' hb => play_same hm hc hM hO hb
    clear hm hc hM hO hS hSw hgw
    go_enter Try.func64, Try.ntmps64
    go_wp2_with ((with_reducible refine wpList_storeR_new (.tmp 6) (.tmp 32) ?_ ?_ (w.heap.size + 1 + 1) ?_ t.1 t.2 A t.2.n cap ?_ rfl ?_ ?_); (with_reducible rfl); rfl; rfl; rfl; (focus (first | omega | (simp only [World.size_alloc, size_plus, World.size_drew, World.size_setCell] <;> omega) | (simp <;> omega))))
    refine bodyPost_ret (v := _) (results_tree Try.results64 _ _ (w.heap.size + 1 + 1) t.1 t.2 (.slice A t.2.n cap) _ rfl ?_ rfl) rfl (HE.out _ (by (repeat' (first | (with_reducible exact Below.refl _ _) | (with_reducible assumption) | (with_reducible refine below_plus ?_ ?_ _) | (with_reducible refine Below.alloc ?_ ?_ _) | (with_reducible refine Below.drew ?_) | (with_reducible refine below_drewN ?_ _) | (with_reducible refine Below.setCell ?_ ?_ _) | (first | omega | (simp only [World.size_alloc, size_plus, World.size_drew, World.size_setCell] <;> omega) | (simp <;> omega)) | omega | (simp; omega)))))
    (repeat' (first | (refine heap_alloc_here _ _ _ ?_; (first | omega | (simp only [World.size_alloc, size_plus, World.size_drew, World.size_setCell] <;> omega) | (simp <;> omega))) | (refine (heap_alloc_old _ _ _ ?_).trans ?_; (first | omega | (simp only [World.size_alloc, size_plus, World.size_drew, World.size_setCell] <;> omega) | (simp <;> omega))) | (refine (heap_plus _ _ _ ?_).trans ?_; (first | omega | (simp only [World.size_alloc, size_plus, World.size_drew, World.size_setCell] <;> omega) | (simp <;> omega))) | rfl))
  by_cases c4 : 256 ≤ f
  · skip
    have HE : Hid (∀ W', Below w.heap.size w W' → PlayPost gm S w (.returned (.tuple #[.agg (cellsR t.1 t.2 (.slice A t.2.n cap)), .bool true])) W') := fun W' hb => play_same hm hc hM hO hb
    clear hm hc hM hO hS hSw hgw
    go_enter Try.func64, Try.ntmps64
    go_wp2_with ((with_reducible refine wpList_storeR_new (.tmp 6) (.tmp 32) ?_ ?_ (w.heap.size + 1 + 1) ?_ t.1 t.2 A t.2.n cap ?_ rfl ?_ ?_); (with_reducible rfl); rfl; rfl; rfl; (focus (first | omega | (simp only [World.size_alloc, size_plus, World.size_drew, World.size_setCell] <;> omega) | (simp <;> omega))))
    refine bodyPost_ret (v := _) (results_tree Try.results64 _ _ (w.heap.size + 1 + 1) t.1 t.2 (.slice A t.2.n cap) _ rfl ?_ rfl) rfl (HE.out _ (by (repeat' (first | (with_reducible exact Below.refl _ _) | (with_reducible assumption) | (with_reducible refine below_plus ?_ ?_ _) | (with_reducible refine Below.alloc ?_ ?_ _) | (with_reducible refine Below.drew ?_) | (with_reducible refine below_drewN ?_ _) | (with_reducible refine Below.setCell ?_ ?_ _) | (first | omega | (simp only [World.size_alloc, size_plus, World.size_drew, World.size_setCell] <;> omega) | (simp <;> omega)) | omega | (simp; omega)))))
    (repeat' (first | (refine heap_alloc_here _ _ _ ?_; (first | omega | (simp only [World.size_alloc, size_plus, World.size_drew, World.size_setCell] <;> omega) | (simp <;> omega))) | (refine (heap_alloc_old _ _ _ ?_).trans ?_; (first | omega | (simp only [World.size_alloc, size_plus, World.size_drew, World.size_setCell] <;> omega) | (simp <;> omega))) | (refine (heap_plus _ _ _ ?_).trans ?_; (first | omega | (simp only [World.size_alloc, size_plus, World.size_drew, World.size_setCell] <;> omega) | (simp <;> omega))) | rfl))
  obtain ⟨n, rfl⟩ : ∃ n : Nat, ix = n := ⟨ix.toNat, by omega⟩
  have hn : n < 24 := by omega
  have hnI : (n : Int) < 24 := by omega
  have HMK := Lib.hid hm
  have HCK := Lib.hid hc
  have HVK : Hid (vOk t.1 t.2) := cm_vOk hm hc
  have HB : Hid (∀ V, Below w.heap.size w V → V.heap[w.heap.size]? = some (.cells (cellsR t.1 t.2 (.slice A t.2.n cap)) 28 (0, 0)) → V.heap[w.heap.size + 1]? = some (.cells #[.int .i64 kd, .int .i64 n, .int .i64 f] 62 (0, 0)) → V.heap[w.heap.size + 2]? = some (.cells (cellsR 0 zeroN (.slice none 0 0)) 28 (0, 0)) → PlS w gm m n kd f t A cap S V) := fun V hb h1 h2 h3 =>
    ⟨h1, h2, h3, hM.keep (hb.block _ hgw), .of_below hb (Nat.le_refl _), hO.frame _ fun b _ hl => hb.block b hl, hgw, hS, hSw, hn⟩
  clear hm hc hO hS hSw hM
  go_enter Try.func64, Try.ntmps64
  go_upto_region 3 with fail
  (refine wp_region_quiet_plus (by kernel_rfl) (by kernel_rfl) ?_; (repeat (go_big_quiet_step (fail))); refine wpQuiet_nil ?_; intro _)
  go_wp2_with fail
  generalize hV : World.plus _ _ = V
  have hHV : PlS w gm m n kd f t A cap S V := by
    subst hV
    refine HB.out _ (by (repeat' (first | (with_reducible exact Below.refl _ _) | (with_reducible assumption) | (with_reducible refine below_plus ?_ ?_ _) | (with_reducible refine Below.alloc ?_ ?_ _) | (with_reducible refine Below.drew ?_) | (with_reducible refine below_drewN ?_ _) | (with_reducible refine Below.setCell ?_ ?_ _) | (first | omega | (simp only [World.size_alloc, size_plus, World.size_drew, World.size_setCell] <;> omega) | (simp <;> omega)) | omega | (simp; omega)))) ?_ ?_ ?_
    · refine (heap_plus _ _ _ (by (first | omega | (simp only [World.size_alloc, size_plus, World.size_drew, World.size_setCell] <;> omega) | (simp <;> omega)))).trans (((below_alloc _ _).block _ (by (first | omega | (simp only [World.size_alloc, size_plus, World.size_drew, World.size_setCell] <;> omega) | (simp <;> omega)))).trans (((below_alloc _ _).block _ (by (first | omega | (simp only [World.size_alloc, size_plus, World.size_drew, World.size_setCell] <;> omega) | (simp <;> omega)))).trans (heap_alloc_here _ _ _ rfl)))
    · refine (heap_plus _ _ _ (by (first | omega | (simp only [World.size_alloc, size_plus, World.size_drew, World.size_setCell] <;> omega) | (simp <;> omega)))).trans (((below_alloc _ _).block _ (by (first | omega | (simp only [World.size_alloc, size_plus, World.size_drew, World.size_setCell] <;> omega) | (simp <;> omega)))).trans (heap_alloc_here _ _ _ (by (first | omega | (simp only [World.size_alloc, size_plus, World.size_drew, World.size_setCell] <;> omega) | (simp <;> omega)))))
    · exact (heap_plus _ _ _ (by (first | omega | (simp only [World.size_alloc, size_plus, World.size_drew, World.size_setCell] <;> omega) | (simp <;> omega)))).trans (heap_alloc_here _ _ _ (by (first | omega | (simp only [World.size_alloc, size_plus, World.size_drew, World.size_setCell] <;> omega) | (simp <;> omega))))
  have HPV := Lib.hid hHV
  clear hHV hV HB hgw
  go_loopw [9, 38] (fun tv iv wr => ∃ k : Nat, k ≤ 24 ∧ iv = .int .i64 k ∧ tv = .bool (takenB m k f) ∧ PlS w gm m n kd f t A cap S wr) (fun _ iv _ => 24 - (intOf iv).toNat)
  case atStart => exact ⟨0, by omega, rfl, rfl, HPV.out⟩
  case round =>
    obtain ⟨k, hk, rfl, rfl, hp⟩ := hrel
    clear HPV
    by_cases hlt : k < 24
    · have hkI : (k : Int) < 24 := by omega
      have q0 : wr.cell? ⟨gm, k * 3, none⟩ = some (.int .i64 (m k).1) := hp.mp.cell (j := 0) hlt (by omega)
      have o0 := hp.o
      have l0 := hp.p.2.2
      have HP := Lib.hid hp
      have HS : Hid (takenB m (k + 1) f = (takenB m k f || (m k).1 == f)) := taken_succ m k f
      clear hp
      generalize (m k).1 = fk at *
      cases ht : takenB m k f
      · rw [ht, Bool.false_or] at HS
        cases hq : (fk == f)
        · rw [hq] at HS
          go_upto_region 8 with fail
          (refine wp_region_quiet_plus (by kernel_rfl) (by kernel_rfl) ?_; (repeat (go_big_quiet_step (fail))); refine wpQuiet_nil ?_; intro _)
          go_wp2_with fail
          exact ⟨⟨k + 1, by omega, by go_num, by rw [HS.out], HP.out.stay (by (repeat' (first | (with_reducible exact Below.refl _ _) | (with_reducible assumption) | (with_reducible refine below_plus ?_ ?_ _) | (with_reducible refine Below.alloc ?_ ?_ _) | (with_reducible refine Below.drew ?_) | (with_reducible refine below_drewN ?_ _) | (with_reducible refine Below.setCell ?_ ?_ _) | (first | omega | (simp only [World.size_alloc, size_plus, World.size_drew, World.size_setCell] <;> omega) | (simp <;> omega)) | omega | (simp; omega))))⟩, by simp [intOf]; omega⟩
        · rw [hq] at HS
          go_upto_region 8 with fail
          (refine wp_region_quiet_plus (by kernel_rfl) (by kernel_rfl) ?_; (repeat (go_big_quiet_step (fail))); refine wpQuiet_nil ?_; intro _)
          go_wp2_with fail
          exact ⟨⟨k + 1, by omega, by go_num, by rw [HS.out], HP.out.stay (by (repeat' (first | (with_reducible exact Below.refl _ _) | (with_reducible assumption) | (with_reducible refine below_plus ?_ ?_ _) | (with_reducible refine Below.alloc ?_ ?_ _) | (with_reducible refine Below.drew ?_) | (with_reducible refine below_drewN ?_ _) | (with_reducible refine Below.setCell ?_ ?_ _) | (first | omega | (simp only [World.size_alloc, size_plus, World.size_drew, World.size_setCell] <;> omega) | (simp <;> omega)) | omega | (simp; omega))))⟩, by simp [intOf]; omega⟩
      · rw [ht, Bool.true_or] at HS
        go_upto_region 8 with fail
        (refine wp_region_quiet_plus (by kernel_rfl) (by kernel_rfl) ?_; (repeat (go_big_quiet_step (fail))); refine wpQuiet_nil ?_; intro _)
        go_wp2_with fail
        exact ⟨⟨k + 1, by omega, by go_num, by rw [HS.out], HP.out.stay (by (repeat' (first | (with_reducible exact Below.refl _ _) | (with_reducible assumption) | (with_reducible refine below_plus ?_ ?_ _) | (with_reducible refine Below.alloc ?_ ?_ _) | (with_reducible refine Below.drew ?_) | (with_reducible refine below_drewN ?_ _) | (with_reducible refine Below.setCell ?_ ?_ _) | (first | omega | (simp only [World.size_alloc, size_plus, World.size_drew, World.size_setCell] <;> omega) | (simp <;> omega)) | omega | (simp; omega))))⟩, by simp [intOf]; omega⟩
    · obtain rfl : k = 24 := by omega
      have HP0 := Lib.hid hp
      have p0 := hp.p
      have o0 := hp.o
      have r0 := row12 hp.bx
      by_cases k0 : kd = 0
      · subst k0
        by_cases hfr : (m n).1 < 0
        · have hfr2 : ¬ 0 ≤ (m n).1 := by omega
          cases ht : takenB m 24 f
          · skip
            obtain ⟨u, hu, hm2, hc2⟩ := put_yes HMK.out HCK.out HP0.out.n24 (by omega) (by omega) hfr ht
            have HCA : Hid (∀ cs W, RdVals W cs 12 (encR t.1 t.2) → Calls Try.prog 58 #[.agg cs, .int .i64 n, .int .i64 f] W (TreePost ((u.1 : Int), u.2, 0) W)) := fun cs W hr => by have := c_Put cs _ _ n f W hr HVK.out (by omega) (by omega); rw [hu] at this; exact this
            have HM2 := Lib.hid hm2
            have HC2 := Lib.hid hc2
            clear hu hm2 hc2
            clear hp
            go_upto_region 42 with (first
              | ((with_reducible refine wpList_storeR_new (.tmp 11) (.tmp 54) ?_ ?_ wr.heap.size ?_ t.1 t.2 A t.2.n cap ?_ rfl rfl ?_); (with_reducible rfl); rfl; rfl; rfl; generalize hV1 : World.alloc wr _ = V1; (have hb1 : Below wr.heap.size wr V1 := by rw [← hV1]; exact below_alloc _ _); (have hg1 : V1.heap[wr.heap.size]? = some (.cells (cellsR t.1 t.2 (.slice A t.2.n cap)) 28 (0, 0)) := by rw [← hV1]; exact heap_alloc_new _ _); have HP1 := Lib.hid (HP0.out.stay hb1); have p1 := HP1.out.p; have o1 := HP1.out.o; have r1 := row12 HP1.out.bx; have HG1 := Lib.hid hg1; clear hV1 hb1 hg1 p0 o0 r0)
              | (go_at_call 58; (with_reducible refine (HCA.out _ _ ?_).mono ?_); exact HP1.out.rd; rintro e W1 ⟨s1, rfl, hown1, hb1⟩; (obtain ⟨A1, cap1, rfl, -⟩ := hown1.slice); have HG2 := Lib.hid ((hb1.block _ (lt_of_heap HG1.out)).trans HG1.out); have HP2 := Lib.hid (HP1.out.stay hb1); have HO2 := Lib.hid hown1; clear hown1 hb1 p1 o1 r1)
              | ((with_reducible refine wpList_storeR (.tmp 11) (.tmp 94) ?_ ?_ wr.heap.size ?_ u.1 u.2 A1 u.2.n cap1 ?_ _ 28 HG2.out rfl ?_); (with_reducible rfl); rfl; rfl; rfl; generalize hW2 : World.setRow W1 wr.heap.size _ = W2; (have HP3 : Hid (PlS w gm m n 0 f t A cap S W2) := by rw [← hW2]; exact HP2.out.row HP0.out.lt _); (have HG3 : Hid (W2.heap[wr.heap.size]? = some (.cells (cellsR u.1 u.2 (.slice A1 u.2.n cap1)) 28 (0, 0))) := by rw [← hW2]; exact setRow_heap _ _ _ _ _ _ HG2.out); (have HO3 : Hid (OwnK W2 u.2 (.slice A1 u.2.n cap1) (fun b => V1.heap.size ≤ b)) := by rw [← hW2]; exact OwnK.frame _ HO2.out fun b hb _ => setRow_other _ _ _ _ (by have := lt_of_heap HG1.out; omega)); have p3 := HP3.out.p; have o3 := HP3.out.o; have r3 := row12 HP3.out.bx; clear hW2))
            generalize hW4 : World.setCell (World.setCell W2 _ _) _ _ = W4
            have hm4 : MapAt W4 gm (updM m n (f, -1, (m n).2.2)) := by rw [← hW4]; exact HP3.out.mp.two HP0.out.n24
            have ht4 : MTn gm W2 W4 := by rw [← hW4]; exact ((MTn.refl _ _).set _ _).set _ _
            clear hW4
            have HP4 := Lib.hid (HP3.out.turn hm4 ht4)
            have HT4 := Lib.hid ht4
            clear hm4 ht4 p3 o3 r3
            have r4 := row12 HP4.out.bx
            have o4 := HP4.out.o
            have p4 := HP4.out.p
            have HG4 := Lib.hid ((HT4.out.far wr.heap.size (lt_of_heap HG3.out) (by have := HP0.out.gw; have := HP0.out.lt; omega)).trans HG3.out)
            have r5 := row12 HG4.out
            have l5 := lt_of_heap HG4.out
            have HO4 := Lib.hid (OwnK.frame _ HO3.out fun b hb hl => HT4.out.far b hl (by have := HP0.out.gw; have := HP0.out.lt; have := lt_of_heap HG1.out; omega))
            go_wp2_with ((with_reducible refine wpList_storeR (.tmp 6) (.tmp 198) ?_ ?_ (w.heap.size + 2) ?_ u.1 u.2 A1 u.2.n cap1 ?_ _ 28 HP4.out.br rfl ?_); (with_reducible rfl); rfl; rfl; rfl)
            refine bodyPost_ret (v := _) (results_tree Try.results64 _ _ (w.heap.size + 2) u.1 u.2 (.slice A1 u.2.n cap1) _ rfl (setRow_heap _ _ _ _ _ _ HP4.out.br) rfl) rfl (HP4.out.doneNew HM2.out HC2.out HO4.out (by have := HP0.out.lt; have := lt_of_heap HG1.out; omega) _)
          · skip
            have hu := put_bad (f := f) HMK.out HCK.out HP0.out.n24 (by omega) (by omega) (.inr ht)
            have HCA : Hid (∀ cs W, RdVals W cs 12 (encR t.1 t.2) → Calls Try.prog 58 #[.agg cs, .int .i64 n, .int .i64 f] W (TreePost (0, zeroN, 7) W)) := fun cs W hr => by have := c_Put cs _ _ n f W hr HVK.out (by omega) (by omega); rw [hu] at this; exact this
            clear hu
            clear hp
            go_upto_region 42 with (first
              | ((with_reducible refine wpList_storeR_new (.tmp 11) (.tmp 54) ?_ ?_ wr.heap.size ?_ t.1 t.2 A t.2.n cap ?_ rfl rfl ?_); (with_reducible rfl); rfl; rfl; rfl; generalize hV1 : World.alloc wr _ = V1; (have hb1 : Below wr.heap.size wr V1 := by rw [← hV1]; exact below_alloc _ _); (have hg1 : V1.heap[wr.heap.size]? = some (.cells (cellsR t.1 t.2 (.slice A t.2.n cap)) 28 (0, 0)) := by rw [← hV1]; exact heap_alloc_new _ _); have HP1 := Lib.hid (HP0.out.stay hb1); have p1 := HP1.out.p; have o1 := HP1.out.o; have r1 := row12 HP1.out.bx; have HG1 := Lib.hid hg1; clear hV1 hb1 hg1 p0 o0 r0)
              | (go_at_call 58; (with_reducible refine (HCA.out _ _ ?_).mono ?_); exact HP1.out.rd; rintro e W1 ⟨s1, rfl, hown1, hb1⟩; (obtain ⟨A1, cap1, rfl, -⟩ := hown1.slice); have HG2 := Lib.hid ((hb1.block _ (lt_of_heap HG1.out)).trans HG1.out); have HP2 := Lib.hid (HP1.out.stay hb1); have HO2 := Lib.hid hown1; clear hown1 hb1 p1 o1 r1)
              | ((with_reducible refine wpList_storeR (.tmp 11) (.tmp 94) ?_ ?_ wr.heap.size ?_ 0 zeroN A1 zeroN.n cap1 ?_ _ 28 HG2.out rfl ?_); (with_reducible rfl); rfl; rfl; rfl; generalize hW2 : World.setRow W1 wr.heap.size _ = W2; (have HP3 : Hid (PlS w gm m n 0 f t A cap S W2) := by rw [← hW2]; exact HP2.out.row HP0.out.lt _); (have HG3 : Hid (W2.heap[wr.heap.size]? = some (.cells (cellsR 0 zeroN (.slice A1 zeroN.n cap1)) 28 (0, 0))) := by rw [← hW2]; exact setRow_heap _ _ _ _ _ _ HG2.out); (have HO3 : Hid (OwnK W2 zeroN (.slice A1 zeroN.n cap1) (fun b => V1.heap.size ≤ b)) := by rw [← hW2]; exact OwnK.frame _ HO2.out fun b hb _ => setRow_other _ _ _ _ (by have := lt_of_heap HG1.out; omega)); have p3 := HP3.out.p; have o3 := HP3.out.o; have r3 := row12 HP3.out.bx; clear hW2))
            have HP4 := HP3
            have HT4 : Hid (MTn gm W2 W2) := MTn.refl _ _
            go_wp2_with ((with_reducible refine wpList_storeR (.tmp 6) (.tmp 197) ?_ ?_ (w.heap.size + 2) ?_ t.1 t.2 A t.2.n cap ?_ _ 28 HP4.out.br rfl ?_); (with_reducible rfl); rfl; rfl; rfl)
            refine bodyPost_ret (v := _) (results_tree Try.results64 _ _ (w.heap.size + 2) t.1 t.2 (.slice A t.2.n cap) _ rfl (setRow_heap _ _ _ _ _ _ HP4.out.br) rfl) rfl (HP4.out.done HMK.out HCK.out _)
        · have hfr2 : 0 ≤ (m n).1 := by omega
          have hu := put_bad (f := f) HMK.out HCK.out HP0.out.n24 (by omega) (by omega) (.inl hfr2)
          have HCA : Hid (∀ cs W, RdVals W cs 12 (encR t.1 t.2) → Calls Try.prog 58 #[.agg cs, .int .i64 n, .int .i64 f] W (TreePost (0, zeroN, 7) W)) := fun cs W hr => by have := c_Put cs _ _ n f W hr HVK.out (by omega) (by omega); rw [hu] at this; exact this
          clear hu
          clear hp
          go_upto_region 42 with (first
            | ((with_reducible refine wpList_storeR_new (.tmp 11) (.tmp 54) ?_ ?_ wr.heap.size ?_ t.1 t.2 A t.2.n cap ?_ rfl rfl ?_); (with_reducible rfl); rfl; rfl; rfl; generalize hV1 : World.alloc wr _ = V1; (have hb1 : Below wr.heap.size wr V1 := by rw [← hV1]; exact below_alloc _ _); (have hg1 : V1.heap[wr.heap.size]? = some (.cells (cellsR t.1 t.2 (.slice A t.2.n cap)) 28 (0, 0)) := by rw [← hV1]; exact heap_alloc_new _ _); have HP1 := Lib.hid (HP0.out.stay hb1); have p1 := HP1.out.p; have o1 := HP1.out.o; have r1 := row12 HP1.out.bx; have HG1 := Lib.hid hg1; clear hV1 hb1 hg1 p0 o0 r0)
            | (go_at_call 58; (with_reducible refine (HCA.out _ _ ?_).mono ?_); exact HP1.out.rd; rintro e W1 ⟨s1, rfl, hown1, hb1⟩; (obtain ⟨A1, cap1, rfl, -⟩ := hown1.slice); have HG2 := Lib.hid ((hb1.block _ (lt_of_heap HG1.out)).trans HG1.out); have HP2 := Lib.hid (HP1.out.stay hb1); have HO2 := Lib.hid hown1; clear hown1 hb1 p1 o1 r1)
            | ((with_reducible refine wpList_storeR (.tmp 11) (.tmp 94) ?_ ?_ wr.heap.size ?_ 0 zeroN A1 zeroN.n cap1 ?_ _ 28 HG2.out rfl ?_); (with_reducible rfl); rfl; rfl; rfl; generalize hW2 : World.setRow W1 wr.heap.size _ = W2; (have HP3 : Hid (PlS w gm m n 0 f t A cap S W2) := by rw [← hW2]; exact HP2.out.row HP0.out.lt _); (have HG3 : Hid (W2.heap[wr.heap.size]? = some (.cells (cellsR 0 zeroN (.slice A1 zeroN.n cap1)) 28 (0, 0))) := by rw [← hW2]; exact setRow_heap _ _ _ _ _ _ HG2.out); (have HO3 : Hid (OwnK W2 zeroN (.slice A1 zeroN.n cap1) (fun b => V1.heap.size ≤ b)) := by rw [← hW2]; exact OwnK.frame _ HO2.out fun b hb _ => setRow_other _ _ _ _ (by have := lt_of_heap HG1.out; omega)); have p3 := HP3.out.p; have o3 := HP3.out.o; have r3 := row12 HP3.out.bx; clear hW2))
          have HP4 := HP3
          have HT4 : Hid (MTn gm W2 W2) := MTn.refl _ _
          go_wp2_with ((with_reducible refine wpList_storeR (.tmp 6) (.tmp 197) ?_ ?_ (w.heap.size + 2) ?_ t.1 t.2 A t.2.n cap ?_ _ 28 HP4.out.br rfl ?_); (with_reducible rfl); rfl; rfl; rfl)
          refine bodyPost_ret (v := _) (results_tree Try.results64 _ _ (w.heap.size + 2) t.1 t.2 (.slice A t.2.n cap) _ rfl (setRow_heap _ _ _ _ _ _ HP4.out.br) rfl) rfl (HP4.out.done HMK.out HCK.out _)
      by_cases k1 : kd = 1
      · subst k1
        by_cases hfr : (m n).1 < 0
        · have hfr2 : ¬ 0 ≤ (m n).1 := by omega
          have hu := move_none (f := f) HMK.out HCK.out HP0.out.n24 (by omega) (by omega) hfr
          have HCA : Hid (∀ cs W, RdVals W cs 12 (encR t.1 t.2) → Calls Try.prog 60 #[.agg cs, .int .i64 n, .int .i64 f] W (TreePost (0, zeroN, 6) W)) := fun cs W hr => by have := c_Move cs _ _ n f W hr HVK.out (by omega) (by omega); rw [hu] at this; exact this
          clear hu
          clear hp
          go_upto_region 42 with (first
            | ((with_reducible refine wpList_storeR_new (.tmp 11) (.tmp 54) ?_ ?_ wr.heap.size ?_ t.1 t.2 A t.2.n cap ?_ rfl rfl ?_); (with_reducible rfl); rfl; rfl; rfl; generalize hV1 : World.alloc wr _ = V1; (have hb1 : Below wr.heap.size wr V1 := by rw [← hV1]; exact below_alloc _ _); (have hg1 : V1.heap[wr.heap.size]? = some (.cells (cellsR t.1 t.2 (.slice A t.2.n cap)) 28 (0, 0)) := by rw [← hV1]; exact heap_alloc_new _ _); have HP1 := Lib.hid (HP0.out.stay hb1); have p1 := HP1.out.p; have o1 := HP1.out.o; have r1 := row12 HP1.out.bx; have HG1 := Lib.hid hg1; clear hV1 hb1 hg1 p0 o0 r0)
            | (go_at_call 60; (with_reducible refine (HCA.out _ _ ?_).mono ?_); exact HP1.out.rd; rintro e W1 ⟨s1, rfl, hown1, hb1⟩; (obtain ⟨A1, cap1, rfl, -⟩ := hown1.slice); have HG2 := Lib.hid ((hb1.block _ (lt_of_heap HG1.out)).trans HG1.out); have HP2 := Lib.hid (HP1.out.stay hb1); have HO2 := Lib.hid hown1; clear hown1 hb1 p1 o1 r1)
            | ((with_reducible refine wpList_storeR (.tmp 11) (.tmp 103) ?_ ?_ wr.heap.size ?_ 0 zeroN A1 zeroN.n cap1 ?_ _ 28 HG2.out rfl ?_); (with_reducible rfl); rfl; rfl; rfl; generalize hW2 : World.setRow W1 wr.heap.size _ = W2; (have HP3 : Hid (PlS w gm m n 1 f t A cap S W2) := by rw [← hW2]; exact HP2.out.row HP0.out.lt _); (have HG3 : Hid (W2.heap[wr.heap.size]? = some (.cells (cellsR 0 zeroN (.slice A1 zeroN.n cap1)) 28 (0, 0))) := by rw [← hW2]; exact setRow_heap _ _ _ _ _ _ HG2.out); (have HO3 : Hid (OwnK W2 zeroN (.slice A1 zeroN.n cap1) (fun b => V1.heap.size ≤ b)) := by rw [← hW2]; exact OwnK.frame _ HO2.out fun b hb _ => setRow_other _ _ _ _ (by have := lt_of_heap HG1.out; omega)); have p3 := HP3.out.p; have o3 := HP3.out.o; have r3 := row12 HP3.out.bx; clear hW2))
          have HP4 := HP3
          have HT4 : Hid (MTn gm W2 W2) := MTn.refl _ _
          go_wp2_with ((with_reducible refine wpList_storeR (.tmp 6) (.tmp 197) ?_ ?_ (w.heap.size + 2) ?_ t.1 t.2 A t.2.n cap ?_ _ 28 HP4.out.br rfl ?_); (with_reducible rfl); rfl; rfl; rfl)
          refine bodyPost_ret (v := _) (results_tree Try.results64 _ _ (w.heap.size + 2) t.1 t.2 (.slice A t.2.n cap) _ rfl (setRow_heap _ _ _ _ _ _ HP4.out.br) rfl) rfl (HP4.out.done HMK.out HCK.out _)
        · have hfr2 : 0 ≤ (m n).1 := by omega
          cases ht : takenB m 24 f
          · skip
            obtain ⟨u, hu, hm2, hc2⟩ := move_yes HMK.out HCK.out HP0.out.n24 (by omega) (by omega) hfr2 ht
            have HCA : Hid (∀ cs W, RdVals W cs 12 (encR t.1 t.2) → Calls Try.prog 60 #[.agg cs, .int .i64 n, .int .i64 f] W (TreePost ((u.1 : Int), u.2, 0) W)) := fun cs W hr => by have := c_Move cs _ _ n f W hr HVK.out (by omega) (by omega); rw [hu] at this; exact this
            have HM2 := Lib.hid hm2
            have HC2 := Lib.hid hc2
            clear hu hm2 hc2
            clear hp
            go_upto_region 42 with (first
              | ((with_reducible refine wpList_storeR_new (.tmp 11) (.tmp 54) ?_ ?_ wr.heap.size ?_ t.1 t.2 A t.2.n cap ?_ rfl rfl ?_); (with_reducible rfl); rfl; rfl; rfl; generalize hV1 : World.alloc wr _ = V1; (have hb1 : Below wr.heap.size wr V1 := by rw [← hV1]; exact below_alloc _ _); (have hg1 : V1.heap[wr.heap.size]? = some (.cells (cellsR t.1 t.2 (.slice A t.2.n cap)) 28 (0, 0)) := by rw [← hV1]; exact heap_alloc_new _ _); have HP1 := Lib.hid (HP0.out.stay hb1); have p1 := HP1.out.p; have o1 := HP1.out.o; have r1 := row12 HP1.out.bx; have HG1 := Lib.hid hg1; clear hV1 hb1 hg1 p0 o0 r0)
              | (go_at_call 60; (with_reducible refine (HCA.out _ _ ?_).mono ?_); exact HP1.out.rd; rintro e W1 ⟨s1, rfl, hown1, hb1⟩; (obtain ⟨A1, cap1, rfl, -⟩ := hown1.slice); have HG2 := Lib.hid ((hb1.block _ (lt_of_heap HG1.out)).trans HG1.out); have HP2 := Lib.hid (HP1.out.stay hb1); have HO2 := Lib.hid hown1; clear hown1 hb1 p1 o1 r1)
              | ((with_reducible refine wpList_storeR (.tmp 11) (.tmp 103) ?_ ?_ wr.heap.size ?_ u.1 u.2 A1 u.2.n cap1 ?_ _ 28 HG2.out rfl ?_); (with_reducible rfl); rfl; rfl; rfl; generalize hW2 : World.setRow W1 wr.heap.size _ = W2; (have HP3 : Hid (PlS w gm m n 1 f t A cap S W2) := by rw [← hW2]; exact HP2.out.row HP0.out.lt _); (have HG3 : Hid (W2.heap[wr.heap.size]? = some (.cells (cellsR u.1 u.2 (.slice A1 u.2.n cap1)) 28 (0, 0))) := by rw [← hW2]; exact setRow_heap _ _ _ _ _ _ HG2.out); (have HO3 : Hid (OwnK W2 u.2 (.slice A1 u.2.n cap1) (fun b => V1.heap.size ≤ b)) := by rw [← hW2]; exact OwnK.frame _ HO2.out fun b hb _ => setRow_other _ _ _ _ (by have := lt_of_heap HG1.out; omega)); have p3 := HP3.out.p; have o3 := HP3.out.o; have r3 := row12 HP3.out.bx; clear hW2))
            generalize hW4 : World.setCell (World.setCell W2 _ _) _ _ = W4
            have hm4 : MapAt W4 gm (updM m n (f, -1, (m n).2.2)) := by rw [← hW4]; exact HP3.out.mp.two HP0.out.n24
            have ht4 : MTn gm W2 W4 := by rw [← hW4]; exact ((MTn.refl _ _).set _ _).set _ _
            clear hW4
            have HP4 := Lib.hid (HP3.out.turn hm4 ht4)
            have HT4 := Lib.hid ht4
            clear hm4 ht4 p3 o3 r3
            have r4 := row12 HP4.out.bx
            have o4 := HP4.out.o
            have p4 := HP4.out.p
            have HG4 := Lib.hid ((HT4.out.far wr.heap.size (lt_of_heap HG3.out) (by have := HP0.out.gw; have := HP0.out.lt; omega)).trans HG3.out)
            have r5 := row12 HG4.out
            have l5 := lt_of_heap HG4.out
            have HO4 := Lib.hid (OwnK.frame _ HO3.out fun b hb hl => HT4.out.far b hl (by have := HP0.out.gw; have := HP0.out.lt; have := lt_of_heap HG1.out; omega))
            go_wp2_with ((with_reducible refine wpList_storeR (.tmp 6) (.tmp 198) ?_ ?_ (w.heap.size + 2) ?_ u.1 u.2 A1 u.2.n cap1 ?_ _ 28 HP4.out.br rfl ?_); (with_reducible rfl); rfl; rfl; rfl)
            refine bodyPost_ret (v := _) (results_tree Try.results64 _ _ (w.heap.size + 2) u.1 u.2 (.slice A1 u.2.n cap1) _ rfl (setRow_heap _ _ _ _ _ _ HP4.out.br) rfl) rfl (HP4.out.doneNew HM2.out HC2.out HO4.out (by have := HP0.out.lt; have := lt_of_heap HG1.out; omega) _)
          · skip
            have hu := move_bad (f := f) HMK.out HCK.out HP0.out.n24 (by omega) (by omega) hfr2 ht
            have HCA : Hid (∀ cs W, RdVals W cs 12 (encR t.1 t.2) → Calls Try.prog 60 #[.agg cs, .int .i64 n, .int .i64 f] W (TreePost (0, zeroN, 7) W)) := fun cs W hr => by have := c_Move cs _ _ n f W hr HVK.out (by omega) (by omega); rw [hu] at this; exact this
            clear hu
            clear hp
            go_upto_region 42 with (first
              | ((with_reducible refine wpList_storeR_new (.tmp 11) (.tmp 54) ?_ ?_ wr.heap.size ?_ t.1 t.2 A t.2.n cap ?_ rfl rfl ?_); (with_reducible rfl); rfl; rfl; rfl; generalize hV1 : World.alloc wr _ = V1; (have hb1 : Below wr.heap.size wr V1 := by rw [← hV1]; exact below_alloc _ _); (have hg1 : V1.heap[wr.heap.size]? = some (.cells (cellsR t.1 t.2 (.slice A t.2.n cap)) 28 (0, 0)) := by rw [← hV1]; exact heap_alloc_new _ _); have HP1 := Lib.hid (HP0.out.stay hb1); have p1 := HP1.out.p; have o1 := HP1.out.o; have r1 := row12 HP1.out.bx; have HG1 := Lib.hid hg1; clear hV1 hb1 hg1 p0 o0 r0)
              | (go_at_call 60; (with_reducible refine (HCA.out _ _ ?_).mono ?_); exact HP1.out.rd; rintro e W1 ⟨s1, rfl, hown1, hb1⟩; (obtain ⟨A1, cap1, rfl, -⟩ := hown1.slice); have HG2 := Lib.hid ((hb1.block _ (lt_of_heap HG1.out)).trans HG1.out); have HP2 := Lib.hid (HP1.out.stay hb1); have HO2 := Lib.hid hown1; clear hown1 hb1 p1 o1 r1)
              | ((with_reducible refine wpList_storeR (.tmp 11) (.tmp 103) ?_ ?_ wr.heap.size ?_ 0 zeroN A1 zeroN.n cap1 ?_ _ 28 HG2.out rfl ?_); (with_reducible rfl); rfl; rfl; rfl; generalize hW2 : World.setRow W1 wr.heap.size _ = W2; (have HP3 : Hid (PlS w gm m n 1 f t A cap S W2) := by rw [← hW2]; exact HP2.out.row HP0.out.lt _); (have HG3 : Hid (W2.heap[wr.heap.size]? = some (.cells (cellsR 0 zeroN (.slice A1 zeroN.n cap1)) 28 (0, 0))) := by rw [← hW2]; exact setRow_heap _ _ _ _ _ _ HG2.out); (have HO3 : Hid (OwnK W2 zeroN (.slice A1 zeroN.n cap1) (fun b => V1.heap.size ≤ b)) := by rw [← hW2]; exact OwnK.frame _ HO2.out fun b hb _ => setRow_other _ _ _ _ (by have := lt_of_heap HG1.out; omega)); have p3 := HP3.out.p; have o3 := HP3.out.o; have r3 := row12 HP3.out.bx; clear hW2))
            have HP4 := HP3
            have HT4 : Hid (MTn gm W2 W2) := MTn.refl _ _
            go_wp2_with ((with_reducible refine wpList_storeR (.tmp 6) (.tmp 197) ?_ ?_ (w.heap.size + 2) ?_ t.1 t.2 A t.2.n cap ?_ _ 28 HP4.out.br rfl ?_); (with_reducible rfl); rfl; rfl; rfl)
            refine bodyPost_ret (v := _) (results_tree Try.results64 _ _ (w.heap.size + 2) t.1 t.2 (.slice A t.2.n cap) _ rfl (setRow_heap _ _ _ _ _ _ HP4.out.br) rfl) rfl (HP4.out.done HMK.out HCK.out _)
      by_cases k2 : kd = 2
      · subst k2
        by_cases hfr : (m n).1 < 0
        · have hfr2 : ¬ 0 ≤ (m n).1 := by omega
          have hu := evict_none (f := f) HMK.out HCK.out HP0.out.n24 (by omega) hfr
          have HCA : Hid (∀ cs W, RdVals W cs 12 (encR t.1 t.2) → Calls Try.prog 62 #[.agg cs, .int .i64 n, .int .i64 f] W (TreePost (0, zeroN, 6) W)) := fun cs W hr => by have := c_Evict cs _ _ n f W hr HVK.out (by omega) (by omega) (by omega); rw [hu] at this; exact this
          clear hu
          clear hp
          go_upto_region 42 with (first
            | ((with_reducible refine wpList_storeR_new (.tmp 11) (.tmp 54) ?_ ?_ wr.heap.size ?_ t.1 t.2 A t.2.n cap ?_ rfl rfl ?_); (with_reducible rfl); rfl; rfl; rfl; generalize hV1 : World.alloc wr _ = V1; (have hb1 : Below wr.heap.size wr V1 := by rw [← hV1]; exact below_alloc _ _); (have hg1 : V1.heap[wr.heap.size]? = some (.cells (cellsR t.1 t.2 (.slice A t.2.n cap)) 28 (0, 0)) := by rw [← hV1]; exact heap_alloc_new _ _); have HP1 := Lib.hid (HP0.out.stay hb1); have p1 := HP1.out.p; have o1 := HP1.out.o; have r1 := row12 HP1.out.bx; have HG1 := Lib.hid hg1; clear hV1 hb1 hg1 p0 o0 r0)
            | (go_at_call 62; (with_reducible refine (HCA.out _ _ ?_).mono ?_); exact HP1.out.rd; rintro e W1 ⟨s1, rfl, hown1, hb1⟩; (obtain ⟨A1, cap1, rfl, -⟩ := hown1.slice); have HG2 := Lib.hid ((hb1.block _ (lt_of_heap HG1.out)).trans HG1.out); have HP2 := Lib.hid (HP1.out.stay hb1); have HO2 := Lib.hid hown1; clear hown1 hb1 p1 o1 r1)
            | ((with_reducible refine wpList_storeR (.tmp 11) (.tmp 124) ?_ ?_ wr.heap.size ?_ 0 zeroN A1 zeroN.n cap1 ?_ _ 28 HG2.out rfl ?_); (with_reducible rfl); rfl; rfl; rfl; generalize hW2 : World.setRow W1 wr.heap.size _ = W2; (have HP3 : Hid (PlS w gm m n 2 f t A cap S W2) := by rw [← hW2]; exact HP2.out.row HP0.out.lt _); (have HG3 : Hid (W2.heap[wr.heap.size]? = some (.cells (cellsR 0 zeroN (.slice A1 zeroN.n cap1)) 28 (0, 0))) := by rw [← hW2]; exact setRow_heap _ _ _ _ _ _ HG2.out); (have HO3 : Hid (OwnK W2 zeroN (.slice A1 zeroN.n cap1) (fun b => V1.heap.size ≤ b)) := by rw [← hW2]; exact OwnK.frame _ HO2.out fun b hb _ => setRow_other _ _ _ _ (by have := lt_of_heap HG1.out; omega)); have p3 := HP3.out.p; have o3 := HP3.out.o; have r3 := row12 HP3.out.bx; clear hW2))
          have HP4 := HP3
          have HT4 : Hid (MTn gm W2 W2) := MTn.refl _ _
          go_wp2_with ((with_reducible refine wpList_storeR (.tmp 6) (.tmp 197) ?_ ?_ (w.heap.size + 2) ?_ t.1 t.2 A t.2.n cap ?_ _ 28 HP4.out.br rfl ?_); (with_reducible rfl); rfl; rfl; rfl)
          refine bodyPost_ret (v := _) (results_tree Try.results64 _ _ (w.heap.size + 2) t.1 t.2 (.slice A t.2.n cap) _ rfl (setRow_heap _ _ _ _ _ _ HP4.out.br) rfl) rfl (HP4.out.done HMK.out HCK.out _)
        · have hfr2 : 0 ≤ (m n).1 := by omega
          cases hd : (m n).2.2
          · skip
            obtain ⟨u, hu, hm2, hc2⟩ := evict_yes (f := f) HMK.out HCK.out HP0.out.n24 (by omega) (by omega) hfr2 hd
            have HCA : Hid (∀ cs W, RdVals W cs 12 (encR t.1 t.2) → Calls Try.prog 62 #[.agg cs, .int .i64 n, .int .i64 f] W (TreePost ((u.1 : Int), u.2, 0) W)) := fun cs W hr => by have := c_Evict cs _ _ n f W hr HVK.out (by omega) (by omega) (by omega); rw [hu] at this; exact this
            have HM2 := Lib.hid hm2
            have HC2 := Lib.hid hc2
            clear hu hm2 hc2
            clear hp
            go_upto_region 30 with (first
              | ((with_reducible refine wpList_storeR_new (.tmp 11) (.tmp 54) ?_ ?_ wr.heap.size ?_ t.1 t.2 A t.2.n cap ?_ rfl rfl ?_); (with_reducible rfl); rfl; rfl; rfl; generalize hV1 : World.alloc wr _ = V1; (have hb1 : Below wr.heap.size wr V1 := by rw [← hV1]; exact below_alloc _ _); (have hg1 : V1.heap[wr.heap.size]? = some (.cells (cellsR t.1 t.2 (.slice A t.2.n cap)) 28 (0, 0)) := by rw [← hV1]; exact heap_alloc_new _ _); have HP1 := Lib.hid (HP0.out.stay hb1); have p1 := HP1.out.p; have o1 := HP1.out.o; have r1 := row12 HP1.out.bx; have HG1 := Lib.hid hg1; clear hV1 hb1 hg1 p0 o0 r0)
              | (go_at_call 62; (with_reducible refine (HCA.out _ _ ?_).mono ?_); exact HP1.out.rd; rintro e W1 ⟨s1, rfl, hown1, hb1⟩; (obtain ⟨A1, cap1, rfl, -⟩ := hown1.slice); have HG2 := Lib.hid ((hb1.block _ (lt_of_heap HG1.out)).trans HG1.out); have HP2 := Lib.hid (HP1.out.stay hb1); have HO2 := Lib.hid hown1; clear hown1 hb1 p1 o1 r1)
              | ((with_reducible refine wpList_storeR (.tmp 11) (.tmp 124) ?_ ?_ wr.heap.size ?_ u.1 u.2 A1 u.2.n cap1 ?_ _ 28 HG2.out rfl ?_); (with_reducible rfl); rfl; rfl; rfl; generalize hW2 : World.setRow W1 wr.heap.size _ = W2; (have HP3 : Hid (PlS w gm m n 2 f t A cap S W2) := by rw [← hW2]; exact HP2.out.row HP0.out.lt _); (have HG3 : Hid (W2.heap[wr.heap.size]? = some (.cells (cellsR u.1 u.2 (.slice A1 u.2.n cap1)) 28 (0, 0))) := by rw [← hW2]; exact setRow_heap _ _ _ _ _ _ HG2.out); (have HO3 : Hid (OwnK W2 u.2 (.slice A1 u.2.n cap1) (fun b => V1.heap.size ≤ b)) := by rw [← hW2]; exact OwnK.frame _ HO2.out fun b hb _ => setRow_other _ _ _ _ (by have := lt_of_heap HG1.out; omega)); have p3 := HP3.out.p; have o3 := HP3.out.o; have r3 := row12 HP3.out.bx; clear hW2))
            apply wp_exact (W1 := (W2.drew.setCell ⟨gm, n * 3, none⟩ (.int .i64 (-1))).setCell ⟨gm, n * 3 + 1, none⟩ (.int .i64 f))
            · skip
              have hS : (fun W : World => True ∧ W.cell? ⟨w.heap.size + 1, 2, none⟩ = some (.int .i64 f)) W2.drew := ⟨trivial, o3.2.2⟩
              have FZ : Hid ((W2.drew.frozen? ⟨gm, n * 3, none⟩ = false ∧ W2.drew.frozen? ⟨gm, n * 3 + 1, none⟩ = false) ∧ (W2.drew.cell? ⟨gm, n * 3, none⟩ = some (.int .i64 (m n).1) ∧ W2.drew.cell? ⟨gm, n * 3 + 1, none⟩ = some (.int .i64 (m n).2.1))) := ⟨⟨p3.2.1.1, p3.2.1.2.1⟩, p3.1.1, p3.1.2.1⟩
              refine wp_region_G (fun W => True ∧ W.cell? ⟨w.heap.size + 1, 2, none⟩ = some (.int .i64 f)) [9] (by kernel_rfl) ?_
              refine wpAnyG_take (i := 0) (v := .pointer (some ⟨gm, n * 3, none⟩)) rfl (by kernel_rfl) (by kernel_rfl) (by kernel_rfl) (by kernel_rfl) (by kernel_rfl) (fun _ _ _ h => absurd h.1 (by intro e; cases e)) (Or.inl ⟨by rfl, ?_⟩) hS ?_
              · intro W hW
                have hc := hW.2
                clear hW hS
                go_simp
                all_goals (try (rw [IntKind.wrap_i64]; omega))
              try simp only [Act.put, List.setIfInBounds_toArray, List.set_cons_zero, List.set_cons_succ]
              refine wpAnyG_take (i := 1) (v := .pointer (some ⟨gm, n * 3, none⟩)) rfl (by kernel_rfl) (by kernel_rfl) (by kernel_rfl) (by kernel_rfl) (by kernel_rfl) (fun _ _ _ h => absurd h.1 (by intro e; cases e)) (Or.inl ⟨by rfl, ?_⟩) hS ?_
              · intro W hW
                have hc := hW.2
                clear hW hS
                go_simp
                all_goals (try (rw [IntKind.wrap_i64]; omega))
              try simp only [Act.put, List.setIfInBounds_toArray, List.set_cons_zero, List.set_cons_succ]
              refine wpAnyG_take (i := 2) (v := .pointer (some ⟨w.heap.size + 1, 2, none⟩)) rfl (by kernel_rfl) (by kernel_rfl) (by kernel_rfl) (by kernel_rfl) (by kernel_rfl) (fun _ _ _ h => absurd h.1 (by intro e; cases e)) (Or.inl ⟨by rfl, ?_⟩) hS ?_
              · intro W hW
                have hc := hW.2
                clear hW hS
                go_simp
                all_goals (try (rw [IntKind.wrap_i64]; omega))
              try simp only [Act.put, List.setIfInBounds_toArray, List.set_cons_zero, List.set_cons_succ]
              refine wpAnyG_take (i := 4) (v := .pointer (some ⟨gm, n * 3, none⟩)) rfl (by kernel_rfl) (by kernel_rfl) (by kernel_rfl) (by kernel_rfl) (by kernel_rfl) (fun _ _ _ h => absurd h.1 (by intro e; cases e)) (Or.inl ⟨by rfl, ?_⟩) hS ?_
              · intro W hW
                have hc := hW.2
                clear hW hS
                go_simp
                all_goals (try (rw [IntKind.wrap_i64]; omega))
              try simp only [Act.put, List.setIfInBounds_toArray, List.set_cons_zero, List.set_cons_succ]
              refine wpAnyG_take (i := 5) (v := .pointer (some ⟨gm, n * 3, none⟩)) rfl (by kernel_rfl) (by kernel_rfl) (by kernel_rfl) (by kernel_rfl) (by kernel_rfl) (fun _ _ _ h => absurd h.1 (by intro e; cases e)) (Or.inl ⟨by rfl, ?_⟩) hS ?_
              · intro W hW
                have hc := hW.2
                clear hW hS
                go_simp
                all_goals (try (rw [IntKind.wrap_i64]; omega))
              try simp only [Act.put, List.setIfInBounds_toArray, List.set_cons_zero, List.set_cons_succ]
              have hS6 : (fun W : World => True ∧ W.cell? ⟨w.heap.size + 1, 2, none⟩ = some (.int .i64 f)) (W2.drew.setCell ⟨gm, n * 3, none⟩ (.int .i64 (-1))) := ⟨trivial, (World.cell?_of_block (w := W2.drew) (heap_setCell_other _ _ _ _ (by have := HP0.out.gw; show w.heap.size + 1 ≠ gm; omega))).trans hS.2⟩
              have fz := FZ.out
              refine wpAnyG_two (i := 3) (j := 6) (by kernel_rfl) rfl rfl (fun K' hK => ?_) (fun K' hK => ?_)
              · skip
                have HKK := Lib.hid hK
                clear hK
                go_simp
                refine HKK.out _ _ (fun _ _ => hS) ?_
                clear HKK K'
                try simp only [Act.put, List.setIfInBounds_toArray, List.set_cons_zero, List.set_cons_succ]
                refine wpAnyG_one (i := 6) (by kernel_rfl) rfl (fun K' hK => ?_)
                rw [if_pos (by kernel_rfl)]
                have HKK := Lib.hid hK
                clear hK
                go_simp
                refine HKK.out _ _ (fun _ _ => hS6) ?_
                clear HKK K'
                try simp only [Act.put, List.setIfInBounds_toArray, List.set_cons_zero, List.set_cons_succ]
                refine wpAnyG_one (i := 7) (by kernel_rfl) rfl (fun K' hK => ?_)
                have HKK := Lib.hid hK
                clear hK
                go_simp
                refine HKK.out _ _ (fun _ _ => hS6) ?_
                clear HKK K'
                try simp only [Act.put, List.setIfInBounds_toArray, List.set_cons_zero, List.set_cons_succ]
                refine wpAnyG_one (i := 8) (by kernel_rfl) rfl (fun K' hK => ?_)
                have HKK := Lib.hid hK
                clear hK
                go_simp
                refine HKK.out _ _ (fun _ _ => hS6) ?_
                clear HKK K'
                try simp only [Act.put, List.setIfInBounds_toArray, List.set_cons_zero, List.set_cons_succ]
                refine wpAnyG_one (i := 9) (by kernel_rfl) rfl (fun K' hK => ?_)
                rw [if_pos (by kernel_rfl)]
                have HKK := Lib.hid hK
                clear hK
                go_simp
                refine HKK.out _ _ (fun h _ => absurd h (by decide)) ?_
                clear HKK K'
                try simp only [Act.put, List.setIfInBounds_toArray, List.set_cons_zero, List.set_cons_succ]
                refine wpAnyG_done (by kernel_rfl) ?_ _
                clear hS hS6
                exact ⟨rfl, rfl, rfl⟩
              · skip
                rw [if_pos (by kernel_rfl)]
                have HKK := Lib.hid hK
                clear hK
                go_simp
                refine HKK.out _ _ (fun _ _ => hS6) ?_
                clear HKK K'
                try simp only [Act.put, List.setIfInBounds_toArray, List.set_cons_zero, List.set_cons_succ]
                refine wpAnyG_one (i := 3) (by kernel_rfl) rfl (fun K' hK => ?_)
                have hS7 := hS6.2
                have HKK := Lib.hid hK
                clear hK
                go_simp
                refine HKK.out _ _ (fun _ _ => hS6) ?_
                clear HKK K'
                try simp only [Act.put, List.setIfInBounds_toArray, List.set_cons_zero, List.set_cons_succ]
                refine wpAnyG_one (i := 7) (by kernel_rfl) rfl (fun K' hK => ?_)
                have HKK := Lib.hid hK
                clear hK
                go_simp
                refine HKK.out _ _ (fun _ _ => hS6) ?_
                clear HKK K'
                try simp only [Act.put, List.setIfInBounds_toArray, List.set_cons_zero, List.set_cons_succ]
                refine wpAnyG_one (i := 8) (by kernel_rfl) rfl (fun K' hK => ?_)
                have HKK := Lib.hid hK
                clear hK
                go_simp
                refine HKK.out _ _ (fun _ _ => hS6) ?_
                clear HKK K'
                try simp only [Act.put, List.setIfInBounds_toArray, List.set_cons_zero, List.set_cons_succ]
                refine wpAnyG_one (i := 9) (by kernel_rfl) rfl (fun K' hK => ?_)
                rw [if_pos (by kernel_rfl)]
                have HKK := Lib.hid hK
                clear hK
                go_simp
                refine HKK.out _ _ (fun h _ => absurd h (by decide)) ?_
                clear HKK K'
                try simp only [Act.put, List.setIfInBounds_toArray, List.set_cons_zero, List.set_cons_succ]
                refine wpAnyG_done (by kernel_rfl) ?_ _
                clear hS hS6
                exact ⟨rfl, rfl, rfl⟩
            · skip
              have hm4 : MapAt ((W2.drew.setCell ⟨gm, n * 3, none⟩ (.int .i64 (-1))).setCell ⟨gm, n * 3 + 1, none⟩ (.int .i64 f)) gm (updM m n (-1, f, (m n).2.2)) := (HP3.out.mp.keep (W' := W2.drew) rfl).two HP0.out.n24
              have ht4 : MTn gm W2 ((W2.drew.setCell ⟨gm, n * 3, none⟩ (.int .i64 (-1))).setCell ⟨gm, n * 3 + 1, none⟩ (.int .i64 f)) := (((MTn.refl gm W2).go (B := W2.heap.size) ((Below.refl _ _).drew) (Nat.le_refl _)).set _ _).set _ _
              generalize World.setCell (World.setCell W2.drew _ _) _ _ = W4 at *
              have HP4 := Lib.hid (HP3.out.turn hm4 ht4)
              have HT4 := Lib.hid ht4
              clear hm4 ht4 p3 o3 r3
              have r4 := row12 HP4.out.bx
              have o4 := HP4.out.o
              have p4 := HP4.out.p
              have HG4 := Lib.hid ((HT4.out.far wr.heap.size (lt_of_heap HG3.out) (by have := HP0.out.gw; have := HP0.out.lt; omega)).trans HG3.out)
              have r5 := row12 HG4.out
              have l5 := lt_of_heap HG4.out
              have HO4 := Lib.hid (OwnK.frame _ HO3.out fun b hb hl => HT4.out.far b hl (by have := HP0.out.gw; have := HP0.out.lt; have := lt_of_heap HG1.out; omega))
              go_wp2_with ((with_reducible refine wpList_storeR (.tmp 6) (.tmp 198) ?_ ?_ (w.heap.size + 2) ?_ u.1 u.2 A1 u.2.n cap1 ?_ _ 28 HP4.out.br rfl ?_); (with_reducible rfl); rfl; rfl; rfl)
              refine bodyPost_ret (v := _) (results_tree Try.results64 _ _ (w.heap.size + 2) u.1 u.2 (.slice A1 u.2.n cap1) _ rfl (setRow_heap _ _ _ _ _ _ HP4.out.br) rfl) rfl (HP4.out.doneNew HM2.out HC2.out HO4.out (by have := HP0.out.lt; have := lt_of_heap HG1.out; omega) _)
          · skip
            have hu := evict_bad (f := f) HMK.out HCK.out HP0.out.n24 (by omega) hfr2 hd
            have HCA : Hid (∀ cs W, RdVals W cs 12 (encR t.1 t.2) → Calls Try.prog 62 #[.agg cs, .int .i64 n, .int .i64 f] W (TreePost (0, zeroN, 11) W)) := fun cs W hr => by have := c_Evict cs _ _ n f W hr HVK.out (by omega) (by omega) (by omega); rw [hu] at this; exact this
            clear hu
            clear hp
            go_upto_region 42 with (first
              | ((with_reducible refine wpList_storeR_new (.tmp 11) (.tmp 54) ?_ ?_ wr.heap.size ?_ t.1 t.2 A t.2.n cap ?_ rfl rfl ?_); (with_reducible rfl); rfl; rfl; rfl; generalize hV1 : World.alloc wr _ = V1; (have hb1 : Below wr.heap.size wr V1 := by rw [← hV1]; exact below_alloc _ _); (have hg1 : V1.heap[wr.heap.size]? = some (.cells (cellsR t.1 t.2 (.slice A t.2.n cap)) 28 (0, 0)) := by rw [← hV1]; exact heap_alloc_new _ _); have HP1 := Lib.hid (HP0.out.stay hb1); have p1 := HP1.out.p; have o1 := HP1.out.o; have r1 := row12 HP1.out.bx; have HG1 := Lib.hid hg1; clear hV1 hb1 hg1 p0 o0 r0)
              | (go_at_call 62; (with_reducible refine (HCA.out _ _ ?_).mono ?_); exact HP1.out.rd; rintro e W1 ⟨s1, rfl, hown1, hb1⟩; (obtain ⟨A1, cap1, rfl, -⟩ := hown1.slice); have HG2 := Lib.hid ((hb1.block _ (lt_of_heap HG1.out)).trans HG1.out); have HP2 := Lib.hid (HP1.out.stay hb1); have HO2 := Lib.hid hown1; clear hown1 hb1 p1 o1 r1)
              | ((with_reducible refine wpList_storeR (.tmp 11) (.tmp 124) ?_ ?_ wr.heap.size ?_ 0 zeroN A1 zeroN.n cap1 ?_ _ 28 HG2.out rfl ?_); (with_reducible rfl); rfl; rfl; rfl; generalize hW2 : World.setRow W1 wr.heap.size _ = W2; (have HP3 : Hid (PlS w gm m n 2 f t A cap S W2) := by rw [← hW2]; exact HP2.out.row HP0.out.lt _); (have HG3 : Hid (W2.heap[wr.heap.size]? = some (.cells (cellsR 0 zeroN (.slice A1 zeroN.n cap1)) 28 (0, 0))) := by rw [← hW2]; exact setRow_heap _ _ _ _ _ _ HG2.out); (have HO3 : Hid (OwnK W2 zeroN (.slice A1 zeroN.n cap1) (fun b => V1.heap.size ≤ b)) := by rw [← hW2]; exact OwnK.frame _ HO2.out fun b hb _ => setRow_other _ _ _ _ (by have := lt_of_heap HG1.out; omega)); have p3 := HP3.out.p; have o3 := HP3.out.o; have r3 := row12 HP3.out.bx; clear hW2))
            have HP4 := HP3
            have HT4 : Hid (MTn gm W2 W2) := MTn.refl _ _
            go_wp2_with ((with_reducible refine wpList_storeR (.tmp 6) (.tmp 197) ?_ ?_ (w.heap.size + 2) ?_ t.1 t.2 A t.2.n cap ?_ _ 28 HP4.out.br rfl ?_); (with_reducible rfl); rfl; rfl; rfl)
            refine bodyPost_ret (v := _) (results_tree Try.results64 _ _ (w.heap.size + 2) t.1 t.2 (.slice A t.2.n cap) _ rfl (setRow_heap _ _ _ _ _ _ HP4.out.br) rfl) rfl (HP4.out.done HMK.out HCK.out _)
      by_cases k3 : kd = 3
      · subst k3
        by_cases hfr : (m n).1 < 0
        · by_cases hsh : (m n).2.1 < 0
          · obtain ⟨hu', hpg⟩ := remove_none HMK.out HCK.out HP0.out.n24 hfr hsh
            have hpg := Lib.hid hpg
            have hu := hu'
            have HCA : Hid (∀ cs W, RdVals W cs 12 (encR t.1 t.2) → Calls Try.prog 54 #[.agg cs, .int .i64 n] W (TreePost (0, zeroN, 6) W)) := fun cs W hr => by have := c_Remove cs _ _ n W hr HVK.out (by omega) (by omega); rw [hu] at this; exact this
            clear hu
            clear hp
            go_upto_region 42 with (first
              | ((with_reducible refine wpList_storeR_new (.tmp 11) (.tmp 54) ?_ ?_ wr.heap.size ?_ t.1 t.2 A t.2.n cap ?_ rfl rfl ?_); (with_reducible rfl); rfl; rfl; rfl; generalize hV1 : World.alloc wr _ = V1; (have hb1 : Below wr.heap.size wr V1 := by rw [← hV1]; exact below_alloc _ _); (have hg1 : V1.heap[wr.heap.size]? = some (.cells (cellsR t.1 t.2 (.slice A t.2.n cap)) 28 (0, 0)) := by rw [← hV1]; exact heap_alloc_new _ _); have HP1 := Lib.hid (HP0.out.stay hb1); have p1 := HP1.out.p; have o1 := HP1.out.o; have r1 := row12 HP1.out.bx; have HG1 := Lib.hid hg1; clear hV1 hb1 hg1 p0 o0 r0)
              | (go_at_call 54; (with_reducible refine (HCA.out _ _ ?_).mono ?_); exact HP1.out.rd; rintro e W1 ⟨s1, rfl, hown1, hb1⟩; (obtain ⟨A1, cap1, rfl, -⟩ := hown1.slice); have HG2 := Lib.hid ((hb1.block _ (lt_of_heap HG1.out)).trans HG1.out); have HP2 := Lib.hid (HP1.out.stay hb1); have HO2 := Lib.hid hown1; clear hown1 hb1 p1 o1 r1)
              | ((with_reducible refine wpList_storeR (.tmp 11) (.tmp 150) ?_ ?_ wr.heap.size ?_ 0 zeroN A1 zeroN.n cap1 ?_ _ 28 HG2.out rfl ?_); (with_reducible rfl); rfl; rfl; rfl; generalize hW2 : World.setRow W1 wr.heap.size _ = W2; (have HP3 : Hid (PlS w gm m n 3 f t A cap S W2) := by rw [← hW2]; exact HP2.out.row HP0.out.lt _); (have HG3 : Hid (W2.heap[wr.heap.size]? = some (.cells (cellsR 0 zeroN (.slice A1 zeroN.n cap1)) 28 (0, 0))) := by rw [← hW2]; exact setRow_heap _ _ _ _ _ _ HG2.out); (have HO3 : Hid (OwnK W2 zeroN (.slice A1 zeroN.n cap1) (fun b => V1.heap.size ≤ b)) := by rw [← hW2]; exact OwnK.frame _ HO2.out fun b hb _ => setRow_other _ _ _ _ (by have := lt_of_heap HG1.out; omega)); have p3 := HP3.out.p; have o3 := HP3.out.o; have r3 := row12 HP3.out.bx; clear hW2)
              | ((with_reducible refine wpList_storePg (.tmp 166) (.tmp 165) ?_ ?_ gm n ?_ pg0 ?_ HP3.out.mp HP0.out.n24 ?_); (with_reducible rfl); rfl; rfl; rfl; (intro W4 hm4 ht4); have HP4 := Lib.hid (HP3.out.turn hm4 ht4); have HT4 := Lib.hid ht4; have r4 := row12 HP4.out.bx; have o4 := HP4.out.o; have p4 := HP4.out.p; clear hm4 ht4 p3 o3 r3))
            go_wp2_with ((with_reducible refine wpList_storeR (.tmp 6) (.tmp 197) ?_ ?_ (w.heap.size + 2) ?_ t.1 t.2 A t.2.n cap ?_ _ 28 HP4.out.br rfl ?_); (with_reducible rfl); rfl; rfl; rfl)
            have hid : updM m n pg0 = m := updM_id m hpg.out
            rw [hid] at HP4
            refine bodyPost_ret (v := _) (results_tree Try.results64 _ _ (w.heap.size + 2) t.1 t.2 (.slice A t.2.n cap) _ rfl (setRow_heap _ _ _ _ _ _ HP4.out.br) rfl) rfl (HP4.out.done HMK.out HCK.out _)
          · skip
            obtain ⟨u, hu, hm2, hc2⟩ := remove_yes HMK.out HCK.out HP0.out.n24 (by omega)
            have HCA : Hid (∀ cs W, RdVals W cs 12 (encR t.1 t.2) → Calls Try.prog 54 #[.agg cs, .int .i64 n] W (TreePost ((u.1 : Int), u.2, 0) W)) := fun cs W hr => by have := c_Remove cs _ _ n W hr HVK.out (by omega) (by omega); rw [hu] at this; exact this
            have HM2 := Lib.hid hm2
            have HC2 := Lib.hid hc2
            clear hu hm2 hc2
            clear hp
            go_upto_region 42 with (first
              | ((with_reducible refine wpList_storeR_new (.tmp 11) (.tmp 54) ?_ ?_ wr.heap.size ?_ t.1 t.2 A t.2.n cap ?_ rfl rfl ?_); (with_reducible rfl); rfl; rfl; rfl; generalize hV1 : World.alloc wr _ = V1; (have hb1 : Below wr.heap.size wr V1 := by rw [← hV1]; exact below_alloc _ _); (have hg1 : V1.heap[wr.heap.size]? = some (.cells (cellsR t.1 t.2 (.slice A t.2.n cap)) 28 (0, 0)) := by rw [← hV1]; exact heap_alloc_new _ _); have HP1 := Lib.hid (HP0.out.stay hb1); have p1 := HP1.out.p; have o1 := HP1.out.o; have r1 := row12 HP1.out.bx; have HG1 := Lib.hid hg1; clear hV1 hb1 hg1 p0 o0 r0)
              | (go_at_call 54; (with_reducible refine (HCA.out _ _ ?_).mono ?_); exact HP1.out.rd; rintro e W1 ⟨s1, rfl, hown1, hb1⟩; (obtain ⟨A1, cap1, rfl, -⟩ := hown1.slice); have HG2 := Lib.hid ((hb1.block _ (lt_of_heap HG1.out)).trans HG1.out); have HP2 := Lib.hid (HP1.out.stay hb1); have HO2 := Lib.hid hown1; clear hown1 hb1 p1 o1 r1)
              | ((with_reducible refine wpList_storeR (.tmp 11) (.tmp 150) ?_ ?_ wr.heap.size ?_ u.1 u.2 A1 u.2.n cap1 ?_ _ 28 HG2.out rfl ?_); (with_reducible rfl); rfl; rfl; rfl; generalize hW2 : World.setRow W1 wr.heap.size _ = W2; (have HP3 : Hid (PlS w gm m n 3 f t A cap S W2) := by rw [← hW2]; exact HP2.out.row HP0.out.lt _); (have HG3 : Hid (W2.heap[wr.heap.size]? = some (.cells (cellsR u.1 u.2 (.slice A1 u.2.n cap1)) 28 (0, 0))) := by rw [← hW2]; exact setRow_heap _ _ _ _ _ _ HG2.out); (have HO3 : Hid (OwnK W2 u.2 (.slice A1 u.2.n cap1) (fun b => V1.heap.size ≤ b)) := by rw [← hW2]; exact OwnK.frame _ HO2.out fun b hb _ => setRow_other _ _ _ _ (by have := lt_of_heap HG1.out; omega)); have p3 := HP3.out.p; have o3 := HP3.out.o; have r3 := row12 HP3.out.bx; clear hW2)
              | ((with_reducible refine wpList_storePg (.tmp 166) (.tmp 165) ?_ ?_ gm n ?_ pg0 ?_ HP3.out.mp HP0.out.n24 ?_); (with_reducible rfl); rfl; rfl; rfl; (intro W4 hm4 ht4); have HP4 := Lib.hid (HP3.out.turn hm4 ht4); have HT4 := Lib.hid ht4; have r4 := row12 HP4.out.bx; have o4 := HP4.out.o; have p4 := HP4.out.p; clear hm4 ht4 p3 o3 r3))
            have HG4 := Lib.hid ((HT4.out.far wr.heap.size (lt_of_heap HG3.out) (by have := HP0.out.gw; have := HP0.out.lt; omega)).trans HG3.out)
            have r5 := row12 HG4.out
            have l5 := lt_of_heap HG4.out
            have HO4 := Lib.hid (OwnK.frame _ HO3.out fun b hb hl => HT4.out.far b hl (by have := HP0.out.gw; have := HP0.out.lt; have := lt_of_heap HG1.out; omega))
            go_wp2_with ((with_reducible refine wpList_storeR (.tmp 6) (.tmp 198) ?_ ?_ (w.heap.size + 2) ?_ u.1 u.2 A1 u.2.n cap1 ?_ _ 28 HP4.out.br rfl ?_); (with_reducible rfl); rfl; rfl; rfl)
            refine bodyPost_ret (v := _) (results_tree Try.results64 _ _ (w.heap.size + 2) u.1 u.2 (.slice A1 u.2.n cap1) _ rfl (setRow_heap _ _ _ _ _ _ HP4.out.br) rfl) rfl (HP4.out.doneNew HM2.out HC2.out HO4.out (by have := HP0.out.lt; have := lt_of_heap HG1.out; omega) _)
        · skip
          obtain ⟨u, hu, hm2, hc2⟩ := remove_yes HMK.out HCK.out HP0.out.n24 (by omega)
          have HCA : Hid (∀ cs W, RdVals W cs 12 (encR t.1 t.2) → Calls Try.prog 54 #[.agg cs, .int .i64 n] W (TreePost ((u.1 : Int), u.2, 0) W)) := fun cs W hr => by have := c_Remove cs _ _ n W hr HVK.out (by omega) (by omega); rw [hu] at this; exact this
          have HM2 := Lib.hid hm2
          have HC2 := Lib.hid hc2
          clear hu hm2 hc2
          clear hp
          go_upto_region 42 with (first
            | ((with_reducible refine wpList_storeR_new (.tmp 11) (.tmp 54) ?_ ?_ wr.heap.size ?_ t.1 t.2 A t.2.n cap ?_ rfl rfl ?_); (with_reducible rfl); rfl; rfl; rfl; generalize hV1 : World.alloc wr _ = V1; (have hb1 : Below wr.heap.size wr V1 := by rw [← hV1]; exact below_alloc _ _); (have hg1 : V1.heap[wr.heap.size]? = some (.cells (cellsR t.1 t.2 (.slice A t.2.n cap)) 28 (0, 0)) := by rw [← hV1]; exact heap_alloc_new _ _); have HP1 := Lib.hid (HP0.out.stay hb1); have p1 := HP1.out.p; have o1 := HP1.out.o; have r1 := row12 HP1.out.bx; have HG1 := Lib.hid hg1; clear hV1 hb1 hg1 p0 o0 r0)
            | (go_at_call 54; (with_reducible refine (HCA.out _ _ ?_).mono ?_); exact HP1.out.rd; rintro e W1 ⟨s1, rfl, hown1, hb1⟩; (obtain ⟨A1, cap1, rfl, -⟩ := hown1.slice); have HG2 := Lib.hid ((hb1.block _ (lt_of_heap HG1.out)).trans HG1.out); have HP2 := Lib.hid (HP1.out.stay hb1); have HO2 := Lib.hid hown1; clear hown1 hb1 p1 o1 r1)
            | ((with_reducible refine wpList_storeR (.tmp 11) (.tmp 150) ?_ ?_ wr.heap.size ?_ u.1 u.2 A1 u.2.n cap1 ?_ _ 28 HG2.out rfl ?_); (with_reducible rfl); rfl; rfl; rfl; generalize hW2 : World.setRow W1 wr.heap.size _ = W2; (have HP3 : Hid (PlS w gm m n 3 f t A cap S W2) := by rw [← hW2]; exact HP2.out.row HP0.out.lt _); (have HG3 : Hid (W2.heap[wr.heap.size]? = some (.cells (cellsR u.1 u.2 (.slice A1 u.2.n cap1)) 28 (0, 0))) := by rw [← hW2]; exact setRow_heap _ _ _ _ _ _ HG2.out); (have HO3 : Hid (OwnK W2 u.2 (.slice A1 u.2.n cap1) (fun b => V1.heap.size ≤ b)) := by rw [← hW2]; exact OwnK.frame _ HO2.out fun b hb _ => setRow_other _ _ _ _ (by have := lt_of_heap HG1.out; omega)); have p3 := HP3.out.p; have o3 := HP3.out.o; have r3 := row12 HP3.out.bx; clear hW2)
            | ((with_reducible refine wpList_storePg (.tmp 166) (.tmp 165) ?_ ?_ gm n ?_ pg0 ?_ HP3.out.mp HP0.out.n24 ?_); (with_reducible rfl); rfl; rfl; rfl; (intro W4 hm4 ht4); have HP4 := Lib.hid (HP3.out.turn hm4 ht4); have HT4 := Lib.hid ht4; have r4 := row12 HP4.out.bx; have o4 := HP4.out.o; have p4 := HP4.out.p; clear hm4 ht4 p3 o3 r3))
          have HG4 := Lib.hid ((HT4.out.far wr.heap.size (lt_of_heap HG3.out) (by have := HP0.out.gw; have := HP0.out.lt; omega)).trans HG3.out)
          have r5 := row12 HG4.out
          have l5 := lt_of_heap HG4.out
          have HO4 := Lib.hid (OwnK.frame _ HO3.out fun b hb hl => HT4.out.far b hl (by have := HP0.out.gw; have := HP0.out.lt; have := lt_of_heap HG1.out; omega))
          go_wp2_with ((with_reducible refine wpList_storeR (.tmp 6) (.tmp 198) ?_ ?_ (w.heap.size + 2) ?_ u.1 u.2 A1 u.2.n cap1 ?_ _ 28 HP4.out.br rfl ?_); (with_reducible rfl); rfl; rfl; rfl)
          refine bodyPost_ret (v := _) (results_tree Try.results64 _ _ (w.heap.size + 2) u.1 u.2 (.slice A1 u.2.n cap1) _ rfl (setRow_heap _ _ _ _ _ _ HP4.out.br) rfl) rfl (HP4.out.doneNew HM2.out HC2.out HO4.out (by have := HP0.out.lt; have := lt_of_heap HG1.out; omega) _)
      by_cases k4 : kd = 4
      · subst k4
        by_cases hfr : (m n).1 < 0
        · skip
          have hu := dirty_none HMK.out HCK.out HP0.out.n24 true hfr
          have HCA : Hid (∀ cs W, RdVals W cs 12 (encR t.1 t.2) → Calls Try.prog 56 #[.agg cs, .int .i64 n, .bool true] W (TreePost (0, zeroN, 6) W)) := fun cs W hr => by have := c_SetDirty cs _ _ n true W hr HVK.out (by omega) (by omega); rw [hu] at this; exact this
          clear hu
          clear hp
          go_upto_region 42 with (first
            | ((with_reducible refine wpList_storeR_new (.tmp 11) (.tmp 54) ?_ ?_ wr.heap.size ?_ t.1 t.2 A t.2.n cap ?_ rfl rfl ?_); (with_reducible rfl); rfl; rfl; rfl; generalize hV1 : World.alloc wr _ = V1; (have hb1 : Below wr.heap.size wr V1 := by rw [← hV1]; exact below_alloc _ _); (have hg1 : V1.heap[wr.heap.size]? = some (.cells (cellsR t.1 t.2 (.slice A t.2.n cap)) 28 (0, 0)) := by rw [← hV1]; exact heap_alloc_new _ _); have HP1 := Lib.hid (HP0.out.stay hb1); have p1 := HP1.out.p; have o1 := HP1.out.o; have r1 := row12 HP1.out.bx; have HG1 := Lib.hid hg1; clear hV1 hb1 hg1 p0 o0 r0)
            | (go_at_call 56; (with_reducible refine (HCA.out _ _ ?_).mono ?_); exact HP1.out.rd; rintro e W1 ⟨s1, rfl, hown1, hb1⟩; (obtain ⟨A1, cap1, rfl, -⟩ := hown1.slice); have HG2 := Lib.hid ((hb1.block _ (lt_of_heap HG1.out)).trans HG1.out); have HP2 := Lib.hid (HP1.out.stay hb1); have HO2 := Lib.hid hown1; clear hown1 hb1 p1 o1 r1)
            | ((with_reducible refine wpList_storeR (.tmp 11) (.tmp 178) ?_ ?_ wr.heap.size ?_ 0 zeroN A1 zeroN.n cap1 ?_ _ 28 HG2.out rfl ?_); (with_reducible rfl); rfl; rfl; rfl; generalize hW2 : World.setRow W1 wr.heap.size _ = W2; (have HP3 : Hid (PlS w gm m n 4 f t A cap S W2) := by rw [← hW2]; exact HP2.out.row HP0.out.lt _); (have HG3 : Hid (W2.heap[wr.heap.size]? = some (.cells (cellsR 0 zeroN (.slice A1 zeroN.n cap1)) 28 (0, 0))) := by rw [← hW2]; exact setRow_heap _ _ _ _ _ _ HG2.out); (have HO3 : Hid (OwnK W2 zeroN (.slice A1 zeroN.n cap1) (fun b => V1.heap.size ≤ b)) := by rw [← hW2]; exact OwnK.frame _ HO2.out fun b hb _ => setRow_other _ _ _ _ (by have := lt_of_heap HG1.out; omega)); have p3 := HP3.out.p; have o3 := HP3.out.o; have r3 := row12 HP3.out.bx; clear hW2))
          have HP4 := HP3
          have HT4 : Hid (MTn gm W2 W2) := MTn.refl _ _
          go_wp2_with ((with_reducible refine wpList_storeR (.tmp 6) (.tmp 197) ?_ ?_ (w.heap.size + 2) ?_ t.1 t.2 A t.2.n cap ?_ _ 28 HP4.out.br rfl ?_); (with_reducible rfl); rfl; rfl; rfl)
          refine bodyPost_ret (v := _) (results_tree Try.results64 _ _ (w.heap.size + 2) t.1 t.2 (.slice A t.2.n cap) _ rfl (setRow_heap _ _ _ _ _ _ HP4.out.br) rfl) rfl (HP4.out.done HMK.out HCK.out _)
        · have hfr2 : 0 ≤ (m n).1 := by omega
          obtain ⟨u, hu, hm2, hc2⟩ := dirty_yes HMK.out HCK.out HP0.out.n24 true hfr2
          have HCA : Hid (∀ cs W, RdVals W cs 12 (encR t.1 t.2) → Calls Try.prog 56 #[.agg cs, .int .i64 n, .bool true] W (TreePost ((u.1 : Int), u.2, 0) W)) := fun cs W hr => by have := c_SetDirty cs _ _ n true W hr HVK.out (by omega) (by omega); rw [hu] at this; exact this
          have HM2 := Lib.hid hm2
          have HC2 := Lib.hid hc2
          clear hu hm2 hc2
          clear hp
          go_upto_region 42 with (first
            | ((with_reducible refine wpList_storeR_new (.tmp 11) (.tmp 54) ?_ ?_ wr.heap.size ?_ t.1 t.2 A t.2.n cap ?_ rfl rfl ?_); (with_reducible rfl); rfl; rfl; rfl; generalize hV1 : World.alloc wr _ = V1; (have hb1 : Below wr.heap.size wr V1 := by rw [← hV1]; exact below_alloc _ _); (have hg1 : V1.heap[wr.heap.size]? = some (.cells (cellsR t.1 t.2 (.slice A t.2.n cap)) 28 (0, 0)) := by rw [← hV1]; exact heap_alloc_new _ _); have HP1 := Lib.hid (HP0.out.stay hb1); have p1 := HP1.out.p; have o1 := HP1.out.o; have r1 := row12 HP1.out.bx; have HG1 := Lib.hid hg1; clear hV1 hb1 hg1 p0 o0 r0)
            | (go_at_call 56; (with_reducible refine (HCA.out _ _ ?_).mono ?_); exact HP1.out.rd; rintro e W1 ⟨s1, rfl, hown1, hb1⟩; (obtain ⟨A1, cap1, rfl, -⟩ := hown1.slice); have HG2 := Lib.hid ((hb1.block _ (lt_of_heap HG1.out)).trans HG1.out); have HP2 := Lib.hid (HP1.out.stay hb1); have HO2 := Lib.hid hown1; clear hown1 hb1 p1 o1 r1)
            | ((with_reducible refine wpList_storeR (.tmp 11) (.tmp 178) ?_ ?_ wr.heap.size ?_ u.1 u.2 A1 u.2.n cap1 ?_ _ 28 HG2.out rfl ?_); (with_reducible rfl); rfl; rfl; rfl; generalize hW2 : World.setRow W1 wr.heap.size _ = W2; (have HP3 : Hid (PlS w gm m n 4 f t A cap S W2) := by rw [← hW2]; exact HP2.out.row HP0.out.lt _); (have HG3 : Hid (W2.heap[wr.heap.size]? = some (.cells (cellsR u.1 u.2 (.slice A1 u.2.n cap1)) 28 (0, 0))) := by rw [← hW2]; exact setRow_heap _ _ _ _ _ _ HG2.out); (have HO3 : Hid (OwnK W2 u.2 (.slice A1 u.2.n cap1) (fun b => V1.heap.size ≤ b)) := by rw [← hW2]; exact OwnK.frame _ HO2.out fun b hb _ => setRow_other _ _ _ _ (by have := lt_of_heap HG1.out; omega)); have p3 := HP3.out.p; have o3 := HP3.out.o; have r3 := row12 HP3.out.bx; clear hW2))
          generalize hW4 : World.setCell W2 _ _ = W4
          have hm4 : MapAt W4 gm (updM m n ((m n).1, (m n).2.1, true)) := by rw [← hW4]; exact HP3.out.mp.dirty HP0.out.n24
          have ht4 : MTn gm W2 W4 := by rw [← hW4]; exact (MTn.refl _ _).set _ _
          clear hW4
          have HP4 := Lib.hid (HP3.out.turn hm4 ht4)
          have HT4 := Lib.hid ht4
          clear hm4 ht4 p3 o3 r3
          have r4 := row12 HP4.out.bx
          have o4 := HP4.out.o
          have p4 := HP4.out.p
          have HG4 := Lib.hid ((HT4.out.far wr.heap.size (lt_of_heap HG3.out) (by have := HP0.out.gw; have := HP0.out.lt; omega)).trans HG3.out)
          have r5 := row12 HG4.out
          have l5 := lt_of_heap HG4.out
          have HO4 := Lib.hid (OwnK.frame _ HO3.out fun b hb hl => HT4.out.far b hl (by have := HP0.out.gw; have := HP0.out.lt; have := lt_of_heap HG1.out; omega))
          go_wp2_with ((with_reducible refine wpList_storeR (.tmp 6) (.tmp 198) ?_ ?_ (w.heap.size + 2) ?_ u.1 u.2 A1 u.2.n cap1 ?_ _ 28 HP4.out.br rfl ?_); (with_reducible rfl); rfl; rfl; rfl)
          refine bodyPost_ret (v := _) (results_tree Try.results64 _ _ (w.heap.size + 2) u.1 u.2 (.slice A1 u.2.n cap1) _ rfl (setRow_heap _ _ _ _ _ _ HP4.out.br) rfl) rfl (HP4.out.doneNew HM2.out HC2.out HO4.out (by have := HP0.out.lt; have := lt_of_heap HG1.out; omega) _)
      by_cases k5 : kd = 5
      · subst k5
        by_cases hfr : (m n).1 < 0
        · skip
          have hu := dirty_none HMK.out HCK.out HP0.out.n24 false hfr
          have HCA : Hid (∀ cs W, RdVals W cs 12 (encR t.1 t.2) → Calls Try.prog 56 #[.agg cs, .int .i64 n, .bool false] W (TreePost (0, zeroN, 6) W)) := fun cs W hr => by have := c_SetDirty cs _ _ n false W hr HVK.out (by omega) (by omega); rw [hu] at this; exact this
          clear hu
          clear hp
          go_upto_region 42 with (first
            | ((with_reducible refine wpList_storeR_new (.tmp 11) (.tmp 54) ?_ ?_ wr.heap.size ?_ t.1 t.2 A t.2.n cap ?_ rfl rfl ?_); (with_reducible rfl); rfl; rfl; rfl; generalize hV1 : World.alloc wr _ = V1; (have hb1 : Below wr.heap.size wr V1 := by rw [← hV1]; exact below_alloc _ _); (have hg1 : V1.heap[wr.heap.size]? = some (.cells (cellsR t.1 t.2 (.slice A t.2.n cap)) 28 (0, 0)) := by rw [← hV1]; exact heap_alloc_new _ _); have HP1 := Lib.hid (HP0.out.stay hb1); have p1 := HP1.out.p; have o1 := HP1.out.o; have r1 := row12 HP1.out.bx; have HG1 := Lib.hid hg1; clear hV1 hb1 hg1 p0 o0 r0)
            | (go_at_call 56; (with_reducible refine (HCA.out _ _ ?_).mono ?_); exact HP1.out.rd; rintro e W1 ⟨s1, rfl, hown1, hb1⟩; (obtain ⟨A1, cap1, rfl, -⟩ := hown1.slice); have HG2 := Lib.hid ((hb1.block _ (lt_of_heap HG1.out)).trans HG1.out); have HP2 := Lib.hid (HP1.out.stay hb1); have HO2 := Lib.hid hown1; clear hown1 hb1 p1 o1 r1)
            | ((with_reducible refine wpList_storeR (.tmp 11) (.tmp 178) ?_ ?_ wr.heap.size ?_ 0 zeroN A1 zeroN.n cap1 ?_ _ 28 HG2.out rfl ?_); (with_reducible rfl); rfl; rfl; rfl; generalize hW2 : World.setRow W1 wr.heap.size _ = W2; (have HP3 : Hid (PlS w gm m n 5 f t A cap S W2) := by rw [← hW2]; exact HP2.out.row HP0.out.lt _); (have HG3 : Hid (W2.heap[wr.heap.size]? = some (.cells (cellsR 0 zeroN (.slice A1 zeroN.n cap1)) 28 (0, 0))) := by rw [← hW2]; exact setRow_heap _ _ _ _ _ _ HG2.out); (have HO3 : Hid (OwnK W2 zeroN (.slice A1 zeroN.n cap1) (fun b => V1.heap.size ≤ b)) := by rw [← hW2]; exact OwnK.frame _ HO2.out fun b hb _ => setRow_other _ _ _ _ (by have := lt_of_heap HG1.out; omega)); have p3 := HP3.out.p; have o3 := HP3.out.o; have r3 := row12 HP3.out.bx; clear hW2))
          have HP4 := HP3
          have HT4 : Hid (MTn gm W2 W2) := MTn.refl _ _
          go_wp2_with ((with_reducible refine wpList_storeR (.tmp 6) (.tmp 197) ?_ ?_ (w.heap.size + 2) ?_ t.1 t.2 A t.2.n cap ?_ _ 28 HP4.out.br rfl ?_); (with_reducible rfl); rfl; rfl; rfl)
          refine bodyPost_ret (v := _) (results_tree Try.results64 _ _ (w.heap.size + 2) t.1 t.2 (.slice A t.2.n cap) _ rfl (setRow_heap _ _ _ _ _ _ HP4.out.br) rfl) rfl (HP4.out.done HMK.out HCK.out _)
        · have hfr2 : 0 ≤ (m n).1 := by omega
          obtain ⟨u, hu, hm2, hc2⟩ := dirty_yes HMK.out HCK.out HP0.out.n24 false hfr2
          have HCA : Hid (∀ cs W, RdVals W cs 12 (encR t.1 t.2) → Calls Try.prog 56 #[.agg cs, .int .i64 n, .bool false] W (TreePost ((u.1 : Int), u.2, 0) W)) := fun cs W hr => by have := c_SetDirty cs _ _ n false W hr HVK.out (by omega) (by omega); rw [hu] at this; exact this
          have HM2 := Lib.hid hm2
          have HC2 := Lib.hid hc2
          clear hu hm2 hc2
          clear hp
          go_upto_region 42 with (first
            | ((with_reducible refine wpList_storeR_new (.tmp 11) (.tmp 54) ?_ ?_ wr.heap.size ?_ t.1 t.2 A t.2.n cap ?_ rfl rfl ?_); (with_reducible rfl); rfl; rfl; rfl; generalize hV1 : World.alloc wr _ = V1; (have hb1 : Below wr.heap.size wr V1 := by rw [← hV1]; exact below_alloc _ _); (have hg1 : V1.heap[wr.heap.size]? = some (.cells (cellsR t.1 t.2 (.slice A t.2.n cap)) 28 (0, 0)) := by rw [← hV1]; exact heap_alloc_new _ _); have HP1 := Lib.hid (HP0.out.stay hb1); have p1 := HP1.out.p; have o1 := HP1.out.o; have r1 := row12 HP1.out.bx; have HG1 := Lib.hid hg1; clear hV1 hb1 hg1 p0 o0 r0)
            | (go_at_call 56; (with_reducible refine (HCA.out _ _ ?_).mono ?_); exact HP1.out.rd; rintro e W1 ⟨s1, rfl, hown1, hb1⟩; (obtain ⟨A1, cap1, rfl, -⟩ := hown1.slice); have HG2 := Lib.hid ((hb1.block _ (lt_of_heap HG1.out)).trans HG1.out); have HP2 := Lib.hid (HP1.out.stay hb1); have HO2 := Lib.hid hown1; clear hown1 hb1 p1 o1 r1)
            | ((with_reducible refine wpList_storeR (.tmp 11) (.tmp 178) ?_ ?_ wr.heap.size ?_ u.1 u.2 A1 u.2.n cap1 ?_ _ 28 HG2.out rfl ?_); (with_reducible rfl); rfl; rfl; rfl; generalize hW2 : World.setRow W1 wr.heap.size _ = W2; (have HP3 : Hid (PlS w gm m n 5 f t A cap S W2) := by rw [← hW2]; exact HP2.out.row HP0.out.lt _); (have HG3 : Hid (W2.heap[wr.heap.size]? = some (.cells (cellsR u.1 u.2 (.slice A1 u.2.n cap1)) 28 (0, 0))) := by rw [← hW2]; exact setRow_heap _ _ _ _ _ _ HG2.out); (have HO3 : Hid (OwnK W2 u.2 (.slice A1 u.2.n cap1) (fun b => V1.heap.size ≤ b)) := by rw [← hW2]; exact OwnK.frame _ HO2.out fun b hb _ => setRow_other _ _ _ _ (by have := lt_of_heap HG1.out; omega)); have p3 := HP3.out.p; have o3 := HP3.out.o; have r3 := row12 HP3.out.bx; clear hW2))
          generalize hW4 : World.setCell W2 _ _ = W4
          have hm4 : MapAt W4 gm (updM m n ((m n).1, (m n).2.1, false)) := by rw [← hW4]; exact HP3.out.mp.dirty HP0.out.n24
          have ht4 : MTn gm W2 W4 := by rw [← hW4]; exact (MTn.refl _ _).set _ _
          clear hW4
          have HP4 := Lib.hid (HP3.out.turn hm4 ht4)
          have HT4 := Lib.hid ht4
          clear hm4 ht4 p3 o3 r3
          have r4 := row12 HP4.out.bx
          have o4 := HP4.out.o
          have p4 := HP4.out.p
          have HG4 := Lib.hid ((HT4.out.far wr.heap.size (lt_of_heap HG3.out) (by have := HP0.out.gw; have := HP0.out.lt; omega)).trans HG3.out)
          have r5 := row12 HG4.out
          have l5 := lt_of_heap HG4.out
          have HO4 := Lib.hid (OwnK.frame _ HO3.out fun b hb hl => HT4.out.far b hl (by have := HP0.out.gw; have := HP0.out.lt; have := lt_of_heap HG1.out; omega))
          go_wp2_with ((with_reducible refine wpList_storeR (.tmp 6) (.tmp 198) ?_ ?_ (w.heap.size + 2) ?_ u.1 u.2 A1 u.2.n cap1 ?_ _ 28 HP4.out.br rfl ?_); (with_reducible rfl); rfl; rfl; rfl)
          refine bodyPost_ret (v := _) (results_tree Try.results64 _ _ (w.heap.size + 2) u.1 u.2 (.slice A1 u.2.n cap1) _ rfl (setRow_heap _ _ _ _ _ _ HP4.out.br) rfl) rfl (HP4.out.doneNew HM2.out HC2.out HO4.out (by have := HP0.out.lt; have := lt_of_heap HG1.out; omega) _)
      clear hp
      go_wp2_with (first
        | ((with_reducible refine wpList_storeR_new (.tmp 11) (.tmp 54) ?_ ?_ wr.heap.size ?_ t.1 t.2 A t.2.n cap ?_ rfl rfl ?_); (with_reducible rfl); rfl; rfl; rfl; generalize hV1 : World.alloc wr _ = V1; (have hb1 : Below wr.heap.size wr V1 := by rw [← hV1]; exact below_alloc _ _); have HP1 := Lib.hid (HP0.out.stay hb1); have p1 := HP1.out.p; have o1 := HP1.out.o; have r1 := row12 HP1.out.bx; clear hV1 hb1 p0 o0 r0)
        | ((with_reducible refine wpList_storeR (.tmp 6) (.tmp 57) ?_ ?_ (w.heap.size + 2) ?_ t.1 t.2 A t.2.n cap ?_ _ 28 HP1.out.br rfl ?_); (with_reducible rfl); rfl; rfl; rfl))
      refine bodyPost_ret (v := _) (results_tree Try.results64 _ _ (w.heap.size + 2) t.1 t.2 (.slice A t.2.n cap) _ rfl (setRow_heap _ _ _ _ _ _ HP1.out.br) rfl) rfl (HP1.out.done HMK.out HCK.out _)
theorem m_play (t : Nat × RN) (A : Option Addr) (cap : Nat) (S : Nat → Prop) (m : Nat → Pg) (gm : Nat) (o : OpW) (w : World) (hm : okM m) (hc : Cp (mF m) t) (hM : MapAt w gm m) (hO : OwnK w t.2 (.slice A t.2.n cap) S) (hS : ¬ S gm) :
    Calls Try.prog 64 #[.agg (cellsR t.1 t.2 (.slice A t.2.n cap)), .pointer (some ⟨gm, 0, none⟩), .agg #[.int .i64 o.1, .int .i64 o.2.1, .int .i64 o.2.2]] w (PlayPost gm S w) :=
  (m_play1 t A cap (fun b => S b ∧ b < w.heap.size) m gm o w hm hc hM (hO.frame' _ fun _ _ _ => rfl) (fun h => hS h.1) fun _ h => h.2).mono fun _ _ h => h.mono fun _ h => h.1
end Go.Proofs.Ytcicfijpfhbcaaa
