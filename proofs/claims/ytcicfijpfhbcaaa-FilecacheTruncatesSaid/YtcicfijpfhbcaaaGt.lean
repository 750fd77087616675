/-
  The reference of filecache: Copy, Truncate.
-/
import Derived.Test.YtcicfijpfhbcaaaTp
import Derived.Test.YtcicfijpfhbcaaaGc
import Derived.Test.YtcicfijpfhbcaaaEs
import Derived.Deep.CutBlock
import Derived.Deep.DeepCutAuto
namespace Go.Proofs.Ytcicfijpfhbcaaa
set_option linter.unusedSimpArgs false
set_option linter.unusedVariables false
set_option linter.unusedSectionVars false
open Go.RowKit

/-- Nothing but block g has changed, of what lay in V. -/
structure Ex (g : Nat) (V wr : World) : Prop where
  size : V.heap.size ≤ wr.heap.size
  far : ∀ k, k < V.heap.size → k ≠ g → wr.heap[k]? = V.heap[k]?
theorem Ex.refl (g : Nat) (V : World) : Ex g V V := ⟨Nat.le_refl _, fun _ _ _ => rfl⟩
theorem Ex.go {g : Nat} {V wr W : World} (h : Ex g V wr) (hb : Below wr.heap.size wr W) : Ex g V W :=
  ⟨Nat.le_trans h.size hb.size, fun k hk hn => (hb.block k (Nat.lt_of_lt_of_le hk h.size)).trans (h.far k hk hn)⟩
theorem Ex.set {g : Nat} {V wr : World} (h : Ex g V wr) (row : Array Value) : Ex g V (wr.setRow g row) :=
  ⟨by rw [size_setRow]; exact h.size, fun k hk hn => (setRow_other _ _ _ _ hn).trans (h.far k hk hn)⟩
theorem OwnI.ex {V wr : World} {g base : Nat} {l : List Int} {v : Value} (h : OwnI V base l v) (hx : Ex g V wr) (hg : g < base) : OwnI wr base l v :=
  h.keep fun q hq hl => hx.far q hl (by have := h.base_ q hq; omega)
theorem OneT.go {w wr W : World} {g : Nat} {t : Nat × RN} {A : Option Addr} {cap : Nat} {S : Nat → Prop} (h : OneT w g t A cap S wr) (hb : Below wr.heap.size wr W) : OneT w g t A cap S W :=
  ⟨h.tree.below hb, h.below.trans (hb.mono h.below.size), h.g_⟩

set_option maxRecDepth 100000 in
set_option maxHeartbeats 1000000 in
theorem d_Copy (cs : Array Value) (h : Nat) (x : RN) (hT : okT h x) (w : World) (hr : RdVals w cs 12 (encR h x)) :
    Calls Try.prog 93 #[.agg cs] w fun e w' => ∃ (h2 : Nat) (x2 : RN) (s : Value), e = .returned (.agg (cellsR h2 x2 s)) ∧ OwnK w' x2 s (fun b => w.heap.size ≤ b) ∧ Below w.heap.size w w' ∧ Cp (tl h x) (h2, x2) := by
  obtain ⟨A, cap, rfl, hk⟩ := rdR_open hr
  have HR := Lib.hid hr
  clear hr hk
  have hlen := len_each h x
  have HEA : Hid (∀ i ∈ eachL h x (-1), ∃ n : Nat, i = n ∧ n < 1073741824 ∧ (tl h x n).1 ≠ 0 ∧ getP h x n = (tl h x n).1 ∧ ∀ k : Nat, k < 2 → taggedP h x n k = hasE k (tl h x n)) := fun i hi => by
    have := each_at hi
    obtain ⟨n, rfl⟩ : ∃ n : Nat, i = n := ⟨i.toNat, by omega⟩
    have hn : n < 1073741824 := by omega
    have h0 := (each_mem hT n).1 hi
    exact ⟨n, rfl, hn, h0, get_tl hT hn, fun k hk => has_tl hT hn h0 hk⟩
  have HND : Hid (eachL h x (-1)).Nodup := each_nodup h x
  have HEND : Hid (∀ j, cpG (tl h x) (eachL h x (-1)) j = tl h x j) := cpG_all hT
  have HLI : Hid (∀ cs W, RdVals W cs 12 (encR h x) → Calls Try.prog 39 #[.agg cs] W fun e w' => ∃ v, e = .returned v ∧ OwnI w' W.heap.size (eachL h x (-1)) v ∧ Below W.heap.size W w') := fun cs W hr => by
    have := r_List cs h x W hr
    rwa [← each_list] at this
  have HGT : Hid (∀ i cs W, RdVals W cs 12 (encR h x) → Calls Try.prog 27 #[.agg cs, .int .i64 i] W fun e w' => e = .returned (.int .i64 (getP h x i)) ∧ Below W.heap.size W w') := fun i cs W hr => by
    rw [get_ref]; exact r_Get cs h x i W hr
  have HTG : Hid (∀ i tag cs W, RdVals W cs 12 (encR h x) → Calls Try.prog 35 #[.agg cs, .int .i64 i, .int .i64 tag] W fun e w' => e = .returned (.bool (taggedP h x i tag)) ∧ Below W.heap.size W w') := fun i tag cs W hr => by
    rw [tagged_ref]; exact r_Tagged cs h x i tag W hr
  clear hT
  generalize tl h x = f at *
  generalize eachL h x (-1) = L at *
  have hlenI : (L.length : Int) ≤ 1073741824 := by omega
  go_enter Try.func93, Try.ntmps93
  go_wp2_with (first
    | (go_at_call 23; refine (r_New _).mono ?_; rintro e V0 ⟨rfl, hb⟩; (have hx0 : V0.heap[w.heap.size]? = some (.cells (cellsR h x (.slice A x.n cap)) 28 (0, 0)) := (hb.block _ (by (first | omega | (simp only [World.size_alloc, size_plus, World.size_drew, World.size_setCell] <;> omega) | (simp <;> omega)))).trans (((below_alloc _ _).block _ (by (first | omega | (simp only [World.size_alloc, size_plus, World.size_drew, World.size_setCell] <;> omega) | (simp <;> omega)))).trans (heap_alloc_here _ _ _ rfl))); (have hy0 : V0.heap[w.heap.size + 1]? = some (.cells (cellsR 0 zeroN (.slice none 0 0)) 28 (0, 0)) := (hb.block _ (by (first | omega | (simp only [World.size_alloc, size_plus, World.size_drew, World.size_setCell] <;> omega) | (simp <;> omega)))).trans (heap_alloc_here _ _ _ (by (first | omega | (simp only [World.size_alloc, size_plus, World.size_drew, World.size_setCell] <;> omega) | (simp <;> omega))))); (have hw0 : Below w.heap.size w V0 := (by (repeat' (first | (with_reducible exact Below.refl _ _) | (with_reducible assumption) | (with_reducible refine below_plus ?_ ?_ _) | (with_reducible refine Below.alloc ?_ ?_ _) | (with_reducible refine Below.drew ?_) | (with_reducible refine below_drewN ?_ _) | (with_reducible refine Below.setCell ?_ ?_ _) | (first | omega | (simp only [World.size_alloc, size_plus, World.size_drew, World.size_setCell] <;> omega) | (simp <;> omega)) | omega | (simp; omega))) : Below w.heap.size w _).trans (hb.mono (by (first | omega | (simp only [World.size_alloc, size_plus, World.size_drew, World.size_setCell] <;> omega) | (simp <;> omega))))); have HX0 := Lib.hid hx0; have HY0 := Lib.hid hy0; have HW0 := Lib.hid hw0; clear hb hx0 hy0 hw0)
    | ((with_reducible refine wpList_storeR_new (.tmp 3) (.tmp 7) ?_ ?_ V0.heap.size ?_ 0 zeroN none 0 0 ?_ rfl rfl ?_); (with_reducible rfl); rfl; rfl; rfl; generalize hV1 : World.alloc V0 _ = V1; (have hb1 : Below V0.heap.size V0 V1 := by rw [← hV1]; exact below_alloc _ _); (have hg1 : V1.heap[V0.heap.size]? = some (.cells (cellsR 0 zeroN (.slice none 0 0)) 28 (0, 0)) := by rw [← hV1]; exact heap_alloc_new _ _); (have hx1 := (hb1.block _ (lt_of_heap HX0.out)).trans HX0.out); (have hy1 := (hb1.block _ (lt_of_heap HY0.out)).trans HY0.out); have d1 := row12 hx1; have l1 := lt_of_heap hx1; (have ho1 : OneT w V0.heap.size (0, zeroN) none 0 (fun _ => False) V1 := ⟨⟨hg1, OwnK.none_ rfl, id⟩, HW0.out.trans (hb1.mono HW0.out.size), HW0.out.size⟩); (have hl01 := lt_of_heap HY0.out); have HO1 := Lib.hid ho1; have HX1 := Lib.hid hx1; have HY1 := Lib.hid hy1; clear hV1 hb1 hg1 ho1 hx1 hy1 HX0 HY0)
    | (go_at_call 39; (with_reducible refine (HLI.out _ _ ?_).mono ?_); exact HR.out.keep (below_keeps HO1.out.below); rintro e V ⟨v, rfl, ho, hb⟩; (obtain ⟨AL, capL, rfl, -, -⟩ := ho.slice); have HL := Lib.hid ho; have HO := Lib.hid (HO1.out.go hb); have HX := Lib.hid ((hb.block _ (lt_of_heap HX1.out)).trans HX1.out); have HY := Lib.hid ((hb.block _ (lt_of_heap HY1.out)).trans HY1.out); have hgl := HO1.out.tree.lt; clear ho hb d1 l1))
  generalize V0.heap.size = g at *
  have hbase := HO.out.tree.lt
  go_loopw [11] (fun i wr => ∃ (k : Nat) (t : Nat × RN) (A' : Option Addr) (cap' : Nat) (S : Nat → Prop), k ≤ L.length ∧ i = .int .i64 k ∧ Cp (cpG f (L.take k)) t ∧ OneT w g t A' cap' S wr ∧ Ex g V wr ∧ ∀ b, S b → w.heap.size + 2 ≤ b) (fun i _ => L.length - (intOf i).toNat)
  case atStart => exact ⟨0, (0, zeroN), none, 0, _, by omega, rfl, ⟨okT_zero, fun j => rfl⟩, HO.out, Ex.refl _ _, fun b e => e.elim⟩
  case round =>
    obtain ⟨k, t, A', cap', S, hk, rfl, hcp, hone, hex, hS2⟩ := hrel
    by_cases hlt : k < L.length
    · have hlt' : (k : Int) < (L.length : Int) := by omega
      have hg : L[k]? = some L[k] := List.getElem?_eq_getElem hlt
      have hm : L[k] ∈ L := List.getElem_mem hlt
      have hnd := nodup_at HND.out hlt
      obtain ⟨g2, cap2, hs, -, hgw, ci⟩ := (HL.out.ex hex hgl).at hg
      injection hs with e1 e2 e3
      subst e1 e3
      have hst : L.take (k + 1) = L.take k ++ [L[k]] := by rw [List.take_add_one, hg]; rfl
      have hbox : wr.heap[w.heap.size]? = some (.cells (cellsR h x (.slice A x.n cap)) 28 (0, 0)) := (hex.far _ (lt_of_heap HX.out) (by omega)).trans HX.out
      obtain ⟨n, hin, hn, h0, hget, htag⟩ := HEA.out _ hm
      rw [hin] at hst hnd ci
      have HST := Lib.hid hst
      have HNX : Hid (∀ u, Cp (cpF f (L.take k) 2 n) u → Cp (cpG f (L.take (k + 1))) u) := fun u hu => by
        rw [HST.out]; exact hu.congr fun j => cpF_end _ _ _ _
      have HGI : Hid (∀ cs W, RdVals W cs 12 (encR h x) → Calls Try.prog 27 #[.agg cs, .int .i64 n] W fun e w' => e = .returned (.int .i64 (f n).1) ∧ Below W.heap.size W w') := fun cs W hr => by
        have := HGT.out n cs W hr
        rwa [hget] at this
      have HSE : Hid (∀ cs W, RdVals W cs 12 (encR t.1 t.2) → Calls Try.prog 25 #[.agg cs, .int .i64 n, .int .i64 (f n).1] W fun e w' => ∃ (h2 : Nat) (x2 : RN), TreePost ((h2 : Int), x2, 0) W e w' ∧ Cp (cpF f (L.take k) 0 n) (h2, x2)) := fun cs W hr =>
        (refSet_ok hcp.1 hn _ cs W hr).mono fun e w' ⟨h2, x2, hp, ho, hl⟩ => ⟨h2, x2, hp, ho, cp_set hnd h0 hcp hl⟩
      have HTA : Hid (∀ m : Nat, m < 2 → hasE m (f n) = true → ∀ (u : Nat × RN), Cp (cpF f (L.take k) m n) u → ∀ cs W, RdVals W cs 12 (encR u.1 u.2) → Calls Try.prog 32 #[.agg cs, .int .i64 n, .int .i64 m] W fun e w' => ∃ (h2 : Nat) (x2 : RN), TreePost ((h2 : Int), x2, 0) W e w' ∧ Cp (cpF f (L.take k) (m + 1) n) (h2, x2)) := fun m hm hb u hu cs W hr =>
        (refTag_ok hu.1 hn hm (by rw [hu.2, cpF_at]; exact h0) cs W hr).mono fun e w' ⟨h2, x2, hp, ho, hl⟩ => ⟨h2, x2, hp, ho, cp_tag hm hb hu hl⟩
      have HTI : Hid (∀ m : Nat, m < 2 → ∀ cs W, RdVals W cs 12 (encR h x) → Calls Try.prog 35 #[.agg cs, .int .i64 n, .int .i64 m] W fun e w' => e = .returned (.bool (hasE m (f n))) ∧ Below W.heap.size W w') := fun m hm cs W hr => by
        have := HTG.out n m cs W hr
        rwa [htag m hm] at this
      have hnI : (n : Int) < 1073741824 := by omega
      have d12 := row12 hbox
      have hlB := lt_of_heap hbox
      clear hg hm hst hget htag hnd hin e2
      generalize (f n).1 = vn at *
      have HONE := Lib.hid hone
      have HEX := Lib.hid hex
      have HS2 := Lib.hid hS2
      have HBOX := Lib.hid hbox
      clear hone hex hS2 hbox hcp d12
      go_upto_region 5 with fail
      have keep : ∀ W, Below wr.heap.size wr W → (∀ j u, (cellsR t.1 t.2 (.slice A' t.2.n cap')).toList[j]? = some u → W.cell? ⟨g, j, none⟩ = some u) ∧ (∀ j u, (cellsR h x (.slice A x.n cap)).toList[j]? = some u → W.cell? ⟨w.heap.size, j, none⟩ = some u) := fun W hW =>
        ⟨fun j u hj => below_keeps hW _ _ (HONE.out.tree.cells j u hj), fun j u hj => below_keeps hW _ _ (by rw [cell_of_row _ _ _ _ _ _ HBOX.out]; simpa using hj)⟩
      have hS := keep wr.drew ((Below.refl _ _).drew)
      have HS := Lib.hid ((Below.refl wr.heap.size wr).drew)
      go_cut [] (fun wx => ∃ (u : Nat × RN) (B : Option Addr) (c : Nat) (S' : Nat → Prop), Cp (cpF f (L.take k) 0 n) u ∧ OneT w g u B c S' wx ∧ Ex g V wx ∧ ∀ b, S' b → w.heap.size + 2 ≤ b)
      case first =>
        refine wp_region_G (fun W => (∀ j u, (cellsR t.1 t.2 (.slice A' t.2.n cap')).toList[j]? = some u → W.cell? ⟨g, j, none⟩ = some u) ∧ (∀ j u, (cellsR h x (.slice A x.n cap)).toList[j]? = some u → W.cell? ⟨w.heap.size, j, none⟩ = some u)) [9] (by kernel_rfl) ?_
        refine wpAnyG_take (i := 0) (v := .agg (cellsR t.1 t.2 (.slice A' t.2.n cap'))) rfl (by kernel_rfl) (by kernel_rfl) (by kernel_rfl) (by kernel_rfl) (by kernel_rfl) (fun _ _ _ h => h) (Or.inl ⟨by rfl, fun W hW => run_loadR (.tmp 3) rfl g rfl _ _ _ hW.1⟩) hS ?_
        try simp only [Act.put, List.setIfInBounds_toArray, List.set_cons_zero, List.set_cons_succ]
        refine wpAnyG_take (i := 1) (v := .int .i64 n) rfl (by kernel_rfl) (by kernel_rfl) (by kernel_rfl) (by kernel_rfl) (by kernel_rfl) (fun _ _ _ h => h) (Or.inl ⟨by rfl, ?_⟩) hS ?_
        · intro W hW
          have hc := hW.2
          clear hW hS
          go_simp
          all_goals (try (rw [IntKind.wrap_i64]; omega))
        try simp only [Act.put, List.setIfInBounds_toArray, List.set_cons_zero, List.set_cons_succ]
        refine wpAnyG_take (i := 2) (v := .agg (cellsR h x (.slice A x.n cap))) rfl (by kernel_rfl) (by kernel_rfl) (by kernel_rfl) (by kernel_rfl) (by kernel_rfl) (fun _ _ _ h => h) (Or.inl ⟨by rfl, fun W hW => run_loadR (.tmp 1) rfl w.heap.size rfl _ _ _ hW.2⟩) hS ?_
        try simp only [Act.put, List.setIfInBounds_toArray, List.set_cons_zero, List.set_cons_succ]
        refine wpAnyG_take (i := 3) (v := .int .i64 n) rfl (by kernel_rfl) (by kernel_rfl) (by kernel_rfl) (by kernel_rfl) (by kernel_rfl) (fun _ _ _ h => h) (Or.inl ⟨by rfl, ?_⟩) hS ?_
        · intro W hW
          have hc := hW.2
          clear hW hS
          go_simp
          all_goals (try (rw [IntKind.wrap_i64]; omega))
        try simp only [Act.put, List.setIfInBounds_toArray, List.set_cons_zero, List.set_cons_succ]
        refine wpAnyG_one (i := 4) (by kernel_rfl) rfl (fun K' hK => ?_)
        have HKK := Lib.hid hK
        clear hK
        go_simp
        refine (HGI.out _ _ (HR.out.keep (below_keeps (HONE.out.below.trans (HS.out.mono HONE.out.below.size))))).mono ?_
        rintro e W1 ⟨rfl, hb1⟩
        have hS := keep W1 (HS.out.trans (hb1.mono HS.out.size))
        have HS1 := Lib.hid (HS.out.trans (hb1.mono HS.out.size))
        clear hb1
        refine HKK.out _ _ (fun _ _ => hS) ?_
        clear HKK K'
        try simp only [Act.put, List.setIfInBounds_toArray, List.set_cons_zero, List.set_cons_succ]
        refine wpAnyG_one (i := 5) (by kernel_rfl) rfl (fun K' hK => ?_)
        have HKK := Lib.hid hK
        clear hK
        go_simp
        (with_reducible refine (HSE.out _ _ ?_).mono ?_); exact (HONE.out.go HS1.out).tree.rd
        rintro e W2 ⟨t1, x1, ⟨s1, rfl, hown1, hb1⟩, hcp1⟩
        obtain ⟨A1, cap1, rfl, -⟩ := hown1.slice
        have hbw : Below wr.heap.size wr W2 := HS1.out.trans (hb1.mono HS1.out.size)
        have hS := keep W2 hbw
        have HRG := Lib.hid (HONE.out.go hbw).tree.blk
        have HCP1 := Lib.hid hcp1
        have HT1 := Lib.hid (HONE.out.store (t' := (t1, x1)) hbw (hown1.mono fun b hb => Nat.le_trans HS1.out.size hb))
        have HE1 := Lib.hid ((HEX.out.go hbw).set (cellsR t1 x1 (.slice A1 x1.n cap1)))
        clear hown1 hb1 hcp1 hbw
        refine HKK.out _ _ (fun _ _ => hS) ?_
        clear HKK K'
        try simp only [Act.put, List.setIfInBounds_toArray, List.set_cons_zero, List.set_cons_succ]
        refine wpAnyG_take (i := 6) (v := .tuple #[.agg (cellsR t1 x1 (.slice A1 x1.n cap1)), .int .i64 0]) rfl (by kernel_rfl) (by kernel_rfl) (by kernel_rfl) (by kernel_rfl) (by kernel_rfl) (fun _ _ _ h => h) (Or.inl ⟨by rfl, ?_⟩) hS ?_
        · intro W hW
          have hc := hW.2
          clear hW hS
          go_simp
          all_goals (try (rw [IntKind.wrap_i64]; omega))
        try simp only [Act.put, List.setIfInBounds_toArray, List.set_cons_zero, List.set_cons_succ]
        refine wpAnyG_take (i := 7) (v := .agg (cellsR t1 x1 (.slice A1 x1.n cap1))) rfl (by kernel_rfl) (by kernel_rfl) (by kernel_rfl) (by kernel_rfl) (by kernel_rfl) (fun _ _ _ h => h) (Or.inl ⟨by rfl, ?_⟩) hS ?_
        · intro W hW
          have hc := hW.2
          clear hW hS
          go_simp
          all_goals (try (rw [IntKind.wrap_i64]; omega))
        try simp only [Act.put, List.setIfInBounds_toArray, List.set_cons_zero, List.set_cons_succ]
        refine wpAnyG_two (i := 8) (j := 9) (by kernel_rfl) rfl rfl (fun K' hK => ?_) (fun K' hK => ?_)
        · have HKK := Lib.hid hK
          clear hK
          go_simp
          refine HKK.out _ _ (fun _ _ => hS) ?_
          clear HKK K'
          try simp only [Act.put, List.setIfInBounds_toArray, List.set_cons_zero, List.set_cons_succ]
          refine wpAnyG_one (i := 9) (by kernel_rfl) rfl (fun K' hK => ?_)
          rw [if_pos (by kernel_rfl)]
          refine wp_store_row 28 (.tmp 3) (.tmp 22) rfl (g) (cellsR t1 x1 (.slice A1 x1.n cap1)) rfl rfl 28 _ HRG.out sizeR (by rfl) (by simp [cellsR]; exact ⟨rfl, rfl, rfl, rfl, rfl, rfl, rfl, rfl, rfl, rfl, rfl, rfl⟩) ?_
          refine hK _ _ (fun h _ => absurd h (by decide)) ?_
          clear hK K'
          try simp only [Act.put, List.setIfInBounds_toArray, List.set_cons_zero, List.set_cons_succ]
          try simp only [Act.put, List.setIfInBounds_toArray, List.set_cons_zero, List.set_cons_succ]
          refine wpAnyG_done (by kernel_rfl) ?_ _
          clear hS
          go_wp2_with fail
          go_meet
          exact ⟨(t1, x1), A1, cap1, _, HCP1.out, HT1.out, HE1.out, fun b hb => Nat.le_trans (by have := HONE.out.tree.lt; omega) hb⟩
        · rw [if_pos (by kernel_rfl)]
          refine wp_store_row 28 (.tmp 3) (.tmp 22) rfl (g) (cellsR t1 x1 (.slice A1 x1.n cap1)) rfl rfl 28 _ HRG.out sizeR (by rfl) (by simp [cellsR]; exact ⟨rfl, rfl, rfl, rfl, rfl, rfl, rfl, rfl, rfl, rfl, rfl, rfl⟩) ?_
          refine hK _ _ (fun h _ => absurd h (by decide)) ?_
          clear hK K'
          try simp only [Act.put, List.setIfInBounds_toArray, List.set_cons_zero, List.set_cons_succ]
          refine wpAnyG_one (i := 8) (by kernel_rfl) rfl (fun K' hK => ?_)
          have HKK := Lib.hid hK
          clear hK
          go_simp
          refine HKK.out _ _ (fun _ h => absurd h (by decide +kernel)) ?_
          clear HKK K'
          try simp only [Act.put, List.setIfInBounds_toArray, List.set_cons_zero, List.set_cons_succ]
          try simp only [Act.put, List.setIfInBounds_toArray, List.set_cons_zero, List.set_cons_succ]
          refine wpAnyG_done (by kernel_rfl) ?_ _
          clear hS
          go_wp2_with fail
          go_meet
          exact ⟨(t1, x1), A1, cap1, _, HCP1.out, HT1.out, HE1.out, fun b hb => Nat.le_trans (by have := HONE.out.tree.lt; omega) hb⟩
      case rest =>
        obtain ⟨u0, B0, c0, S0, hcp0, hone0, hex0, hS0⟩ := hcut
        clear keep hS HS HONE HEX HS2 HBOX HSE HGI
        go_wp2_with fail
        go_loopw [6] (fun vm wr => ∃ (m : Nat) (u : Nat × RN) (B : Option Addr) (c : Nat) (S' : Nat → Prop), m ≤ 2 ∧ vm = .int .i64 m ∧ Cp (cpF f (L.take k) m n) u ∧ OneT w g u B c S' wr ∧ Ex g V wr ∧ ∀ b, S' b → w.heap.size + 2 ≤ b) (fun vm _ => 2 - (intOf vm).toNat)
        case atStart => exact ⟨0, u0, B0, c0, S0, by omega, rfl, hcp0, hone0, hex0, hS0⟩
        case round =>
          clear hcp0 hone0 hex0 hS0
          obtain ⟨m, u, B, c, S', hm2, rfl, hcp, hone, hex, hS'⟩ := hrel
          by_cases hm : m < 2
          · have hm' : (m : Int) < 2 := by omega
            have hbox : wr.heap[w.heap.size]? = some (.cells (cellsR h x (.slice A x.n cap)) 28 (0, 0)) := (hex.far _ (lt_of_heap HX.out) (by omega)).trans HX.out
            have d12 := row12 hbox
            have hlB := lt_of_heap hbox
            have HTM := Lib.hid (HTI.out m hm)
            cases hb : hasE m (f n)
            · rw [hb] at HTM
              have HC := Lib.hid (cp_no hm hb hcp)
              have HONE := Lib.hid hone
              have HEX := Lib.hid hex
              have HS' := Lib.hid hS'
              clear hcp hone hex hS' hbox
              go_wp2_with (go_at_call 35; (with_reducible refine (HTM.out _ _ ?_).mono ?_); exact HR.out.keep (below_keeps HONE.out.below); rintro e W3 ⟨rfl, hb3⟩; have HB3 := Lib.hid hb3; clear hb3)
              exact ⟨⟨m + 1, u, B, c, S', by omega, by go_num, HC.out, HONE.out.go HB3.out, HEX.out.go HB3.out, HS'.out⟩, by simp [intOf]; omega⟩
            · rw [hb] at HTM
              have HTB := Lib.hid (HTA.out m hm hb u hcp)
              have HONE := Lib.hid hone
              have HEX := Lib.hid hex
              have HS' := Lib.hid hS'
              clear hcp hone hex hS' hbox
              go_wp2_with (first
                | (go_at_call 35; (with_reducible refine (HTM.out _ _ ?_).mono ?_); exact HR.out.keep (below_keeps HONE.out.below); rintro e W3 ⟨rfl, hb3⟩; have HO3 := Lib.hid (HONE.out.go hb3); have HE3 := Lib.hid (HEX.out.go hb3); have d3 := row12 HO3.out.tree.blk; have l3 := HO3.out.tree.lt; clear hb3 d12)
                | (go_at_call 32; (with_reducible refine (HTB.out _ _ ?_).mono ?_); exact HO3.out.tree.rd; rintro e W4 ⟨t1, x1, ⟨s1, rfl, hown1, hb4⟩, hcp1⟩; (obtain ⟨A4, cap4, rfl, -⟩ := hown1.slice); have HC4 := Lib.hid hcp1; have HO4 := Lib.hid (HO3.out.store (t' := (t1, x1)) hb4 hown1); have HE4 := Lib.hid ((HE3.out.go hb4).set (cellsR t1 x1 (.slice A4 x1.n cap4))); have HRG4 := Lib.hid (HO3.out.go hb4).tree.blk; clear hown1 hb4 hcp1 d3 l3)
                | ((with_reducible refine wpList_storeR (.tmp 3) (.tmp 37) ?_ ?_ g ?_ t1 x1 A4 x1.n cap4 ?_ _ 28 HRG4.out rfl ?_); (with_reducible rfl); rfl; rfl; rfl))
              exact ⟨⟨m + 1, (t1, x1), A4, cap4, _, by omega, by go_num, HC4.out, HO4.out, HE4.out, fun b hb => Nat.le_trans (by have := HO3.out.tree.lt; omega) hb⟩, by simp [intOf]; omega⟩
          · obtain rfl : m = 2 := by omega
            have HC := Lib.hid (HNX.out _ hcp)
            have HONE := Lib.hid hone
            have HEX := Lib.hid hex
            have HS' := Lib.hid hS'
            clear hcp hone hex hS'
            go_wp2_with fail
            exact ⟨⟨k + 1, u, B, c, S', by omega, by go_num, HC.out, HONE.out, HEX.out, HS'.out⟩, by simp [intOf]; omega⟩
    · obtain rfl : k = L.length := by omega
      rw [List.take_length] at hcp
      have HC := Lib.hid (hcp.congr HEND.out)
      have HONE := Lib.hid hone
      have HS' := Lib.hid hS2
      have hbr : wr.heap[w.heap.size + 1]? = some (.cells (cellsR 0 zeroN (.slice none 0 0)) 28 (0, 0)) := (hex.far _ (lt_of_heap HY.out) (by omega)).trans HY.out
      have HBR := Lib.hid hbr
      have d3 := row12 hone.tree.blk
      have l3 := hone.tree.lt
      clear hcp hone hex hS2 hbr
      go_wp2_with ((with_reducible refine wpList_storeR (.tmp 2) (.tmp 40) ?_ ?_ (w.heap.size + 1) ?_ t.1 t.2 A' t.2.n cap' ?_ _ 28 HBR.out rfl ?_); (with_reducible rfl); rfl; rfl; rfl)
      refine bodyPost_ret (v := .agg (cellsR t.1 t.2 (.slice A' t.2.n cap'))) (results_cell_row Try.results93 _ _ (w.heap.size + 1) _ _ _ _ rfl (setRow_heap _ _ _ _ _ _ HBR.out) Try.underlying28 rfl sizeR) rfl ⟨t.1, t.2, _, rfl, ?_, ?_, HC.out⟩
      · exact (HONE.out.tree.own.frame _ fun b hb _ => setRow_other _ _ _ _ (by have := HS'.out b hb; omega)).mono fun b hb => by have := HS'.out b hb; omega
      · exact below_setRow HONE.out.below (by omega) _
end Go.Proofs.Ytcicfijpfhbcaaa
