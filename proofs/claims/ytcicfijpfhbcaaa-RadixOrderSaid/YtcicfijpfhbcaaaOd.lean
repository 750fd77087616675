/-
  The law RadixOrder.
-/
import Derived.Test.YtcicfijpfhbcaaaEs
namespace Go.Proofs.Ytcicfijpfhbcaaa
set_option linter.unusedSimpArgs false
set_option linter.unusedVariables false
set_option linter.unusedSectionVars false
open Go.RowKit

theorem TreeIn.setOther {W : World} {g g' : Nat} {ht : Int} {x : RN} {s : Value} {S : Nat → Prop} (t : TreeIn W g ht x s S) (row : Array Value) (hne : g ≠ g') (hn : ¬ S g') : TreeIn (W.setRow g' row) g ht x s S :=
  ⟨by rw [setRow_other _ _ _ _ hne]; exact t.blk, t.own.frame _ fun b hb _ => setRow_other _ _ _ _ (fun e => hn (e ▸ hb)), t.out⟩

/-- Where a law with two trees stands: the one that is filled, the other one. -/
structure TwoT (w : World) (g g' : Nat) (t t' : Nat × RN) (A A' : Option Addr) (cap cap' : Nat) (S S' : Nat → Prop) (wr : World) : Prop where
  one : OneT w g t A cap S wr
  tree : TreeIn wr g' t'.1 t'.2 (.slice A' t'.2.n cap') S'
  ne : g' ≠ g
  o' : ¬ S' g
  o : ¬ S g'
  g_ : w.heap.size ≤ g'
theorem TwoT.swap {w wr : World} {g g' : Nat} {t t' : Nat × RN} {A A' : Option Addr} {cap cap' : Nat} {S S' : Nat → Prop} (h : TwoT w g g' t t' A A' cap cap' S S' wr) : TwoT w g' g t' t A' A cap' cap S' S wr :=
  ⟨⟨h.tree, h.one.below, h.g_⟩, h.one.tree, h.ne.symm, h.o, h.o', h.one.g_⟩
theorem TwoT.store {w wr W : World} {g g' : Nat} {t t' u : Nat × RN} {A A' B : Option Addr} {cap cap' c : Nat} {S S' : Nat → Prop} (h : TwoT w g g' t t' A A' cap cap' S S' wr) (hb : Below wr.heap.size wr W) (ho : OwnK W u.2 (.slice B u.2.n c) (fun b => wr.heap.size ≤ b)) :
    TwoT w g g' u t' B A' c cap' (fun b => wr.heap.size ≤ b) S' (W.setRow g (cellsR u.1 u.2 (.slice B u.2.n c))) :=
  ⟨h.one.store hb ho, (h.tree.below hb).setOther _ h.ne h.o', h.ne, h.o', fun hh => by have := h.tree.lt; omega, h.g_⟩

def ordA (a : Nat → Nat) (k : Nat) : Nat × RN := ordT ((List.range k).map a)
def ordB (a : Nat → Nat) (n m : Nat) : Nat × RN := ordT ((List.range (n - m)).map fun j => a (n - 1 - j))
theorem ordA_next (a : Nat → Nat) (k : Nat) : ordA a (k + 1) = stepT (ordA a k) (a k) (1 + (a k : Int)) := fill_next id (fun j => 1 + (j : Int)) a k (0, zeroN)
theorem ordB_next (a : Nat → Nat) {n m : Nat} (h : m < n) : ordB a n m = stepT (ordB a n (m + 1)) (a m) (1 + (a m : Int)) := by
  have e : n - m = (n - (m + 1)) + 1 := by omega
  unfold ordB
  rw [e]
  refine (fill_next id (fun j => 1 + (j : Int)) (fun j => a (n - 1 - j)) (n - (m + 1)) (0, zeroN)).trans ?_
  rw [show n - 1 - (n - (m + 1)) = m by omega]
  rfl
theorem ord_mem {a : Nat → Nat} {n : Nat} (ha : ∀ i, i < n → a i < 65536) : ∀ i ∈ (List.range n).map a, i < 1073741824 := fun i hi => by
  obtain ⟨j, hj, rfl⟩ := List.mem_map.1 hi
  have := ha j (List.mem_range.1 hj)
  omega
theorem ordA_ok {a : Nat → Nat} {n : Nat} (ha : ∀ i, i < n → a i < 65536) {k : Nat} (hk : k ≤ n) : okT (ordA a k).1 (ordA a k).2 :=
  (fill_ok _ _ _ (0, zeroN) (ord_mem fun i hi => ha i (by omega)) okT_zero).1
theorem ordB_ok {a : Nat → Nat} {n : Nat} (ha : ∀ i, i < n → a i < 65536) (m : Nat) : okT (ordB a n m).1 (ordB a n m).2 :=
  (fill_ok _ _ _ (0, zeroN) (ord_mem fun i hi => ha _ (by omega)) okT_zero).1
theorem ord_end {a : Nat → Nat} {n : Nat} (ha : ∀ i, i < n → a i < 65536) : (ordA a n).1 = (ordB a n 0).1 ∧ sameB (ordA a n).2 (ordB a n 0).2 = true := by
  refine ord_same (ord_mem ha) fun j => ?_
  simp only [List.mem_map, List.mem_range]
  constructor
  · rintro ⟨k, hk, rfl⟩; exact ⟨n - 1 - k, by omega, by rw [show n - 1 - (n - 1 - k) = k by omega]⟩
  · rintro ⟨k, hk, rfl⟩; exact ⟨n - 1 - k, by omega, rfl⟩

theorem two_start {w W : World} (h : Below w.heap.size w W) :
    TwoT w W.heap.size (W.heap.size + 1) (0, zeroN) (0, zeroN) none none 0 0 (fun _ => False) (fun _ => False)
      ((((W.alloc (.cells (cellsR 0 zeroN (.slice none 0 0)) 28)).alloc (.cells (cellsR 0 zeroN (.slice none 0 0)) 28)).setRow W.heap.size (cellsR 0 zeroN (.slice none 0 0))).setRow (W.heap.size + 1) (cellsR 0 zeroN (.slice none 0 0))) := by
  have h3 : ((W.alloc (.cells (cellsR 0 zeroN (.slice none 0 0)) 28)).alloc (.cells (cellsR 0 zeroN (.slice none 0 0)) 28)).heap[W.heap.size]? = some (.cells (cellsR 0 zeroN (.slice none 0 0)) 28 (0, 0)) := (heap_alloc_old _ _ (by simp)).trans (heap_alloc_here _ _ _ rfl)
  have h4 : ((W.alloc (.cells (cellsR 0 zeroN (.slice none 0 0)) 28)).alloc (.cells (cellsR 0 zeroN (.slice none 0 0)) 28)).heap[W.heap.size + 1]? = some (.cells (cellsR 0 zeroN (.slice none 0 0)) 28 (0, 0)) := heap_alloc_here _ _ _ (by simp)
  have hb := ((h.alloc h.size (.cells (cellsR 0 zeroN (.slice none 0 0)) 28)).alloc (by have := h.size; simp; omega) (.cells (cellsR 0 zeroN (.slice none 0 0)) 28))
  generalize (W.alloc (.cells (cellsR 0 zeroN (.slice none 0 0)) 28)).alloc (.cells (cellsR 0 zeroN (.slice none 0 0)) 28) = V at *
  have hs := h.size
  refine ⟨⟨TreeIn.setOther ⟨setRow_heap _ _ _ _ _ _ h3, OwnK.none_ rfl, id⟩ _ (by omega) id, below_setRow (below_setRow hb (by omega) _) (by omega) _, by omega⟩, ⟨setRow_heap _ _ _ _ _ _ ((setRow_other _ _ _ _ (by omega)).trans h4), OwnK.none_ rfl, id⟩, by omega, id, id, by omega⟩

set_option maxRecDepth 100000 in
set_option maxHeartbeats 1000000 in
theorem l_Order (A0 : Option Addr) (cap0 n : Nat) (a : Nat → Nat) (w : World) (h : RdC w (d16 a n) (.slice A0 n cap0)) (ha : ∀ i, i < n → a i < 65536) :
    Calls Try.prog 5 #[.slice A0 n cap0] w fun e w' => e = .returned (.bool true) ∧ Below w.heap.size w w' := by
  have hcap := d16_cap h
  have hmax : (n : Int) ≤ 9223372036854775807 := by have := hcap.1; have := hcap.2; unfold maxLen at this; omega
  by_cases h40 : 40 < n
  · have h40' : (40 : Int) < (n : Int) := by omega
    go_enter Try.func5, Try.ntmps5
    go_wp2_with (first | (go_at_call 17; refine (l_awake _).mono ?_; rintro e w' ⟨rfl, hb⟩; (first | (obtain ⟨X, rfl⟩ := plus_again hb) | (obtain ⟨X, rfl⟩ := plus_of_below hb)); clear hb))
    go_ret
    exact ⟨rfl, by (repeat' (first | (with_reducible exact Below.refl _ _) | (with_reducible assumption) | (with_reducible refine below_plus ?_ ?_ _) | (with_reducible refine Below.alloc ?_ ?_ _) | (with_reducible refine Below.drew ?_) | (with_reducible refine below_drewN ?_ _) | (with_reducible refine Below.setCell ?_ ?_ _) | (first | omega | (simp only [World.size_alloc, size_plus, World.size_drew, World.size_setCell] <;> omega) | (simp <;> omega)) | omega | (simp; omega)))⟩
  · have h40' : (n : Int) ≤ 40 := by omega
    have HA := Lib.hid ha
    have H := Lib.hid h
    clear h ha h40
    go_enter Try.func5, Try.ntmps5
    go_wp2_with (first
      | (go_at_call 17; refine (l_awake _).mono ?_; rintro e w' ⟨rfl, hb⟩; (first | (obtain ⟨X, rfl⟩ := plus_again hb) | (obtain ⟨X, rfl⟩ := plus_of_below hb)); clear hb)
      | (go_at_call 22; refine (p_New _).mono ?_; rintro e W0 ⟨rfl, hb0⟩; (have HB0 := Lib.hid (below_trans (below_plus (Below.refl w.heap.size w) (Nat.le_refl _) X) (hb0.mono (by simp)))); clear hb0)
      | (go_at_call 22; refine (p_New _).mono ?_; rintro e W1 ⟨rfl, hb1⟩; (have HB1 := Lib.hid (HB0.out.trans (hb1.mono HB0.out.size))); clear hb1)
      | ((with_reducible refine wpList_storeR (.tmp 3) (.tmp 16) ?_ ?_ W1.heap.size ?_ 0 zeroN none 0 0 ?_ (cellsR 0 zeroN (.slice none 0 0)) 28 ?_ rfl ?_); (with_reducible rfl); rfl; rfl; rfl; (exact (heap_alloc_old _ _ (by simp)).trans (heap_alloc_here _ _ _ (by simp))))
      | ((with_reducible refine wpList_storeR (.tmp 4) (.tmp 17) ?_ ?_ (W1.heap.size + 1) ?_ 0 zeroN none 0 0 ?_ (cellsR 0 zeroN (.slice none 0 0)) 28 ?_ rfl ?_); (with_reducible rfl); rfl; rfl; rfl; (exact (setRow_other _ _ _ _ (by omega)).trans (heap_alloc_here _ _ _ (by simp)))))
    go_loopw [20] (fun i wr => ∃ k : Nat, k ≤ n ∧ i = .int .i64 k ∧ ∃ A cap S A' cap' S', TwoT w W1.heap.size (W1.heap.size + 1) (ordA a k) (0, zeroN) A A' cap cap' S S' wr) (fun i _ => n - (intOf i).toNat)
    case atStart => exact ⟨0, by omega, rfl, none, 0, _, none, 0, _, two_start HB1.out⟩
    case round =>
      obtain ⟨k, hk, rfl, A, cap, S, A4, cap4, S4, hO⟩ := hrel
      by_cases hlt : k < n
      · obtain ⟨g, b, rfl, hc⟩ := at16 H.out hlt
        have hak := HA.out k hlt
        have htk := Lib.hid (ordA_ok HA.out (k := k) (by omega))
        have hck := below_keeps hO.one.below _ _ (hc k hlt)
        have hnext := Lib.hid (ordA_next a k)
        generalize ordA a k = t at hO htk hnext
        obtain ⟨t1, x1, hst⟩ : ∃ t1 x1, stepT t (a k) (1 + (a k : Int)) = (t1, x1) := ⟨_, _, rfl⟩
        have HN : Hid (ordA a (k + 1) = (t1, x1)) := hnext.out.trans hst
        have HSTEP : Hid (∀ cs W, RdVals W cs 12 (encR t.1 t.2) → Calls Try.prog 24 #[.agg cs, .int .i64 (a k), .int .i64 (1 + (a k : Int))] W (TreeOut t1 x1 0 W)) := fun cs W hr => by
          have := set_step htk.out (i := a k) (by omega) (1 + (a k : Int)) rfl cs W hr
          rw [hst] at this; exact this
        clear hnext hst htk
        have HO := Lib.hid hO
        clear hO hc
        go_upto_region 8 with fail
        have hS : (∀ j u, (cellsR t.1 t.2 (.slice A t.2.n cap)).toList[j]? = some u → wr.drew.cell? ⟨W1.heap.size, j, none⟩ = some u) ∧ wr.drew.cell? ⟨g, b + k, none⟩ = some (.int .u16 (a k)) := ⟨fun j u hj => HO.out.one.tree.cells j u hj, hck⟩
        refine wp_region_G (fun W => (∀ j u, (cellsR t.1 t.2 (.slice A t.2.n cap)).toList[j]? = some u → W.cell? ⟨W1.heap.size, j, none⟩ = some u) ∧ W.cell? ⟨g, b + k, none⟩ = some (.int .u16 (a k))) [16, 17] (by kernel_rfl) ?_
        refine wpAnyG_take (i := 0) (v := .agg (cellsR t.1 t.2 (.slice A t.2.n cap))) rfl (by kernel_rfl) (by kernel_rfl) (by kernel_rfl) (by kernel_rfl) (by kernel_rfl) (fun _ _ _ h => h) (Or.inl ⟨by rfl, fun W hW => run_loadR (.tmp 3) rfl W1.heap.size rfl _ _ _ hW.1⟩) hS ?_
        try simp only [Act.put, List.setIfInBounds_toArray, List.set_cons_zero, List.set_cons_succ]
        refine wpAnyG_take (i := 1) (v := .slice (some ⟨g, b, none⟩) n cap0) rfl (by kernel_rfl) (by kernel_rfl) (by kernel_rfl) (by kernel_rfl) (by kernel_rfl) (fun _ _ _ h => h) (Or.inl ⟨by rfl, ?_⟩) hS ?_
        · intro W hW
          have hc := hW.2
          clear hW hS
          go_simp
          all_goals (try exact wrap_i64 (by omega) (by omega))
        try simp only [Act.put, List.setIfInBounds_toArray, List.set_cons_zero, List.set_cons_succ]
        refine wpAnyG_take (i := 2) (v := .int .i64 k) rfl (by kernel_rfl) (by kernel_rfl) (by kernel_rfl) (by kernel_rfl) (by kernel_rfl) (fun _ _ _ h => h) (Or.inl ⟨by rfl, ?_⟩) hS ?_
        · intro W hW
          have hc := hW.2
          clear hW hS
          go_simp
          all_goals (try exact wrap_i64 (by omega) (by omega))
        try simp only [Act.put, List.setIfInBounds_toArray, List.set_cons_zero, List.set_cons_succ]
        refine wpAnyG_take (i := 3) (v := .pointer (some ⟨g, b + k, none⟩)) rfl (by kernel_rfl) (by kernel_rfl) (by kernel_rfl) (by kernel_rfl) (by kernel_rfl) (fun _ _ _ h => h) (Or.inl ⟨by rfl, ?_⟩) hS ?_
        · intro W hW
          have hc := hW.2
          clear hW hS
          go_simp
          all_goals (try exact wrap_i64 (by omega) (by omega))
        try simp only [Act.put, List.setIfInBounds_toArray, List.set_cons_zero, List.set_cons_succ]
        refine wpAnyG_take (i := 4) (v := .int .u16 (a k)) rfl (by kernel_rfl) (by kernel_rfl) (by kernel_rfl) (by kernel_rfl) (by kernel_rfl) (fun _ _ _ h => h) (Or.inl ⟨by rfl, ?_⟩) hS ?_
        · intro W hW
          have hc := hW.2
          clear hW hS
          go_simp
          all_goals (try exact wrap_i64 (by omega) (by omega))
        try simp only [Act.put, List.setIfInBounds_toArray, List.set_cons_zero, List.set_cons_succ]
        refine wpAnyG_take (i := 5) (v := .int .i64 (a k)) rfl (by kernel_rfl) (by kernel_rfl) (by kernel_rfl) (by kernel_rfl) (by kernel_rfl) (fun _ _ _ h => h) (Or.inl ⟨by rfl, ?_⟩) hS ?_
        · intro W hW
          have hc := hW.2
          clear hW hS
          go_simp
          all_goals (try exact wrap_i64 (by omega) (by omega))
        try simp only [Act.put, List.setIfInBounds_toArray, List.set_cons_zero, List.set_cons_succ]
        refine wpAnyG_take (i := 6) (v := .slice (some ⟨g, b, none⟩) n cap0) rfl (by kernel_rfl) (by kernel_rfl) (by kernel_rfl) (by kernel_rfl) (by kernel_rfl) (fun _ _ _ h => h) (Or.inl ⟨by rfl, ?_⟩) hS ?_
        · intro W hW
          have hc := hW.2
          clear hW hS
          go_simp
          all_goals (try exact wrap_i64 (by omega) (by omega))
        try simp only [Act.put, List.setIfInBounds_toArray, List.set_cons_zero, List.set_cons_succ]
        refine wpAnyG_take (i := 7) (v := .int .i64 k) rfl (by kernel_rfl) (by kernel_rfl) (by kernel_rfl) (by kernel_rfl) (by kernel_rfl) (fun _ _ _ h => h) (Or.inl ⟨by rfl, ?_⟩) hS ?_
        · intro W hW
          have hc := hW.2
          clear hW hS
          go_simp
          all_goals (try exact wrap_i64 (by omega) (by omega))
        try simp only [Act.put, List.setIfInBounds_toArray, List.set_cons_zero, List.set_cons_succ]
        refine wpAnyG_take (i := 8) (v := .pointer (some ⟨g, b + k, none⟩)) rfl (by kernel_rfl) (by kernel_rfl) (by kernel_rfl) (by kernel_rfl) (by kernel_rfl) (fun _ _ _ h => h) (Or.inl ⟨by rfl, ?_⟩) hS ?_
        · intro W hW
          have hc := hW.2
          clear hW hS
          go_simp
          all_goals (try exact wrap_i64 (by omega) (by omega))
        try simp only [Act.put, List.setIfInBounds_toArray, List.set_cons_zero, List.set_cons_succ]
        refine wpAnyG_take (i := 9) (v := .int .u16 (a k)) rfl (by kernel_rfl) (by kernel_rfl) (by kernel_rfl) (by kernel_rfl) (by kernel_rfl) (fun _ _ _ h => h) (Or.inl ⟨by rfl, ?_⟩) hS ?_
        · intro W hW
          have hc := hW.2
          clear hW hS
          go_simp
          all_goals (try exact wrap_i64 (by omega) (by omega))
        try simp only [Act.put, List.setIfInBounds_toArray, List.set_cons_zero, List.set_cons_succ]
        refine wpAnyG_take (i := 10) (v := .int .i64 (a k)) rfl (by kernel_rfl) (by kernel_rfl) (by kernel_rfl) (by kernel_rfl) (by kernel_rfl) (fun _ _ _ h => h) (Or.inl ⟨by rfl, ?_⟩) hS ?_
        · intro W hW
          have hc := hW.2
          clear hW hS
          go_simp
          all_goals (try exact wrap_i64 (by omega) (by omega))
        try simp only [Act.put, List.setIfInBounds_toArray, List.set_cons_zero, List.set_cons_succ]
        refine wpAnyG_take (i := 11) (v := .int .i64 (1 + (a k : Int))) rfl (by kernel_rfl) (by kernel_rfl) (by kernel_rfl) (by kernel_rfl) (by kernel_rfl) (fun _ _ _ h => h) (Or.inl ⟨by rfl, ?_⟩) hS ?_
        · intro W hW
          have hc := hW.2
          clear hW hS
          go_simp
          all_goals (try exact wrap_i64 (by omega) (by omega))
        try simp only [Act.put, List.setIfInBounds_toArray, List.set_cons_zero, List.set_cons_succ]
        refine wpAnyG_one (i := 12) (by kernel_rfl) rfl (fun K' hK => ?_)
        have HKK := Lib.hid hK
        clear hK
        go_simp
        (with_reducible refine (HSTEP.out _ _ ?_).mono ?_); exact (HO.out.one.tree.below ((Below.refl _ _).drew)).rd
        rintro e W2 ⟨s1, rfl, hown1, hb1⟩
        obtain ⟨A1, cap1, rfl, -⟩ := hown1.slice
        have hbw : Below wr.heap.size wr W2 := ((Below.refl _ _).drew).trans (hb1.mono (by simp))
        have hS : (∀ j u, (cellsR t.1 t.2 (.slice A t.2.n cap)).toList[j]? = some u → W2.cell? ⟨W1.heap.size, j, none⟩ = some u) ∧ W2.cell? ⟨g, b + k, none⟩ = some (.int .u16 (a k)) := ⟨fun j u hj => below_keeps hbw _ _ (HO.out.one.tree.cells j u hj), below_keeps hbw _ _ hck⟩
        have HRG := Lib.hid (HO.out.one.tree.below hbw).blk
        have HT1 := Lib.hid (HO.out.store (u := (t1, x1)) hbw (hown1.mono fun b hb => by simpa using hb))
        clear hown1 hb1
        refine HKK.out _ _ (fun _ _ => hS) ?_
        clear HKK K'
        try simp only [Act.put, List.setIfInBounds_toArray, List.set_cons_zero, List.set_cons_succ]
        refine wpAnyG_take (i := 13) (v := .tuple #[.agg (cellsR t1 x1 (.slice A1 x1.n cap1)), .int .i64 0]) rfl (by kernel_rfl) (by kernel_rfl) (by kernel_rfl) (by kernel_rfl) (by kernel_rfl) (fun _ _ _ h => h) (Or.inl ⟨by rfl, ?_⟩) hS ?_
        · intro W hW
          have hc := hW.2
          clear hW hS
          go_simp
          all_goals (try exact wrap_i64 (by omega) (by omega))
        try simp only [Act.put, List.setIfInBounds_toArray, List.set_cons_zero, List.set_cons_succ]
        refine wpAnyG_take (i := 14) (v := .agg (cellsR t1 x1 (.slice A1 x1.n cap1))) rfl (by kernel_rfl) (by kernel_rfl) (by kernel_rfl) (by kernel_rfl) (by kernel_rfl) (fun _ _ _ h => h) (Or.inl ⟨by rfl, ?_⟩) hS ?_
        · intro W hW
          have hc := hW.2
          clear hW hS
          go_simp
          all_goals (try exact wrap_i64 (by omega) (by omega))
        try simp only [Act.put, List.setIfInBounds_toArray, List.set_cons_zero, List.set_cons_succ]
        refine wpAnyG_two (i := 15) (j := 16) (by kernel_rfl) rfl rfl (fun K' hK => ?_) (fun K' hK => ?_)
        · have HKK := Lib.hid hK
          clear hK
          go_simp
          refine HKK.out _ _ (fun _ _ => hS) ?_
          clear HKK K'
          try simp only [Act.put, List.setIfInBounds_toArray, List.set_cons_zero, List.set_cons_succ]
          refine wpAnyG_one (i := 16) (by kernel_rfl) rfl (fun K' hK => ?_)
          rw [if_pos (by kernel_rfl)]
          refine wp_store_row 28 (.tmp 3) (.tmp 37) rfl (W1.heap.size) (cellsR t1 x1 (.slice A1 x1.n cap1)) rfl rfl 28 _ HRG.out sizeR (by rfl) (by simp [cellsR]; exact ⟨rfl, rfl, rfl, rfl, rfl, rfl, rfl, rfl, rfl, rfl, rfl, rfl⟩) ?_
          refine hK _ _ (fun h _ => absurd h (by decide)) ?_
          clear hK K'
          try simp only [Act.put, List.setIfInBounds_toArray, List.set_cons_zero, List.set_cons_succ]
          refine wpAnyG_one (i := 17) (by kernel_rfl) rfl (fun K' hK => ?_)
          have HKK := Lib.hid hK
          clear hK
          go_simp
          refine HKK.out _ _ (fun h _ => absurd h (by decide)) ?_
          clear HKK K'
          try simp only [Act.put, List.setIfInBounds_toArray, List.set_cons_zero, List.set_cons_succ]
          refine wpAnyG_done (by kernel_rfl) ?_ _
          clear hS
          go_wp2_with fail
          exact ⟨⟨k + 1, by omega, by go_num, A1, cap1, _, A4, cap4, S4, by rw [HN.out]; exact HT1.out⟩, by simp [intOf]; omega⟩
        · rw [if_pos (by kernel_rfl)]
          refine wp_store_row 28 (.tmp 3) (.tmp 37) rfl (W1.heap.size) (cellsR t1 x1 (.slice A1 x1.n cap1)) rfl rfl 28 _ HRG.out sizeR (by rfl) (by simp [cellsR]; exact ⟨rfl, rfl, rfl, rfl, rfl, rfl, rfl, rfl, rfl, rfl, rfl, rfl⟩) ?_
          refine hK _ _ (fun h _ => absurd h (by decide)) ?_
          clear hK K'
          try simp only [Act.put, List.setIfInBounds_toArray, List.set_cons_zero, List.set_cons_succ]
          refine wpAnyG_one (i := 15) (by kernel_rfl) rfl (fun K' hK => ?_)
          have HKK := Lib.hid hK
          clear hK
          go_simp
          refine HKK.out _ _ (fun _ h => absurd h (by decide +kernel)) ?_
          clear HKK K'
          try simp only [Act.put, List.setIfInBounds_toArray, List.set_cons_zero, List.set_cons_succ]
          refine wpAnyG_one (i := 17) (by kernel_rfl) rfl (fun K' hK => ?_)
          have HKK := Lib.hid hK
          clear hK
          go_simp
          refine HKK.out _ _ (fun h _ => absurd h (by decide)) ?_
          clear HKK K'
          try simp only [Act.put, List.setIfInBounds_toArray, List.set_cons_zero, List.set_cons_succ]
          refine wpAnyG_done (by kernel_rfl) ?_ _
          clear hS
          go_wp2_with fail
          exact ⟨⟨k + 1, by omega, by go_num, A1, cap1, _, A4, cap4, S4, by rw [HN.out]; exact HT1.out⟩, by simp [intOf]; omega⟩
      · obtain rfl : k = n := by omega
        have HO := Lib.hid hO.swap
        clear hO
        have hE := Lib.hid (ord_end HA.out)
        have hK := Lib.hid (check_iff.2 (ordA_ok HA.out (Nat.le_refl k)))
        go_wp2_with fail
        go_loopw [7] (fun i wr => ∃ m : Nat, m ≤ k ∧ i = .int .i64 ((m : Int) - 1) ∧ ∃ A cap S A' cap' S', TwoT w (W1.heap.size + 1) W1.heap.size (ordB a k m) (ordA a k) A A' cap cap' S S' wr) (fun i _ => (intOf i + 1).toNat)
        case atStart => exact ⟨k, Nat.le_refl k, rfl, A4, cap4, S4, A, cap, S, by rw [show ordB a k k = (0, zeroN) by unfold ordB; rw [Nat.sub_self]; rfl]; exact HO.out⟩
        case round =>
          obtain ⟨m, hm, rfl, A, cap, S, A4, cap4, S4, hO⟩ := hrel
          rcases m with _ | m
          · have hE' := hE.out
            have hK' := hK.out
            clear hE hK
            generalize ordB a k 0 = tb at hE' hO
            generalize ordA a k = ta at hE' hO hK'
            have HSM : Hid (∀ cs ds W, RdVals W cs 12 (encR ta.1 ta.2) → RdVals W ds 12 (encR tb.1 tb.2) → Calls Try.prog 21 #[.agg cs, .agg ds] W fun e w' => e = .returned (.bool true) ∧ Below W.heap.size W w') := fun cs ds W h1 h2 => by
              have := r_Same cs ds ta.1 tb.1 ta.2 tb.2 W h1 h2
              rw [show sameT ta.1 tb.1 ta.2 tb.2 = true by unfold sameT; rw [hE'.2, hE'.1]; simp] at this
              exact this
            have HCK : Hid (∀ cs W, RdVals W cs 12 (encR ta.1 ta.2) → Calls Try.prog 19 #[.agg cs] W fun e w' => e = .returned (.int .i64 0) ∧ Below W.heap.size W w') := fun cs W h1 => by
              have := p_Check cs ta.1 ta.2 W h1
              rw [hK'] at this; exact this
            have HC3 := Lib.hid hO.tree.cells
            have HC4 := Lib.hid hO.one.tree.cells
            have HR3 := Lib.hid hO.tree.rd
            have HR4 := Lib.hid hO.one.tree.rd
            have HBF := Lib.hid hO.one.below
            clear hO hE' hK'
            go_wp2_with (first
              | ((with_reducible refine wpList_loadR (.tmp 3) ?_ ?_ W1.heap.size ?_ ta.1 ta.2 (.slice A4 ta.2.n cap4) ?_ ?_); (with_reducible rfl); rfl; rfl; (intro j v hj; exact below_keeps (by (repeat' (first | (with_reducible exact Below.refl _ _) | (with_reducible assumption) | (with_reducible refine below_plus ?_ ?_ _) | (with_reducible refine Below.alloc ?_ ?_ _) | (with_reducible refine Below.drew ?_) | (with_reducible refine below_drewN ?_ _) | (with_reducible refine Below.setCell ?_ ?_ _) | (first | omega | (simp only [World.size_alloc, size_plus, World.size_drew, World.size_setCell] <;> omega) | (simp <;> omega)) | omega | (simp; omega)))) _ _ (HC3.out j v hj)))
              | ((with_reducible refine wpList_loadR (.tmp 4) ?_ ?_ (W1.heap.size + 1) ?_ tb.1 tb.2 (.slice A tb.2.n cap) ?_ ?_); (with_reducible rfl); rfl; rfl; (intro j v hj; exact below_keeps (by (repeat' (first | (with_reducible exact Below.refl _ _) | (with_reducible assumption) | (with_reducible refine below_plus ?_ ?_ _) | (with_reducible refine Below.alloc ?_ ?_ _) | (with_reducible refine Below.drew ?_) | (with_reducible refine below_drewN ?_ _) | (with_reducible refine Below.setCell ?_ ?_ _) | (first | omega | (simp only [World.size_alloc, size_plus, World.size_drew, World.size_setCell] <;> omega) | (simp <;> omega)) | omega | (simp; omega)))) _ _ (HC4.out j v hj)))
              | (go_at_call 21; (with_reducible refine (HSM.out _ _ _ ?_ ?_).mono ?_); exact HR3.out.keep (below_keeps (by (repeat' (first | (with_reducible exact Below.refl _ _) | (with_reducible assumption) | (with_reducible refine below_plus ?_ ?_ _) | (with_reducible refine Below.alloc ?_ ?_ _) | (with_reducible refine Below.drew ?_) | (with_reducible refine below_drewN ?_ _) | (with_reducible refine Below.setCell ?_ ?_ _) | (first | omega | (simp only [World.size_alloc, size_plus, World.size_drew, World.size_setCell] <;> omega) | (simp <;> omega)) | omega | (simp; omega))))); exact HR4.out.keep (below_keeps (by (repeat' (first | (with_reducible exact Below.refl _ _) | (with_reducible assumption) | (with_reducible refine below_plus ?_ ?_ _) | (with_reducible refine Below.alloc ?_ ?_ _) | (with_reducible refine Below.drew ?_) | (with_reducible refine below_drewN ?_ _) | (with_reducible refine Below.setCell ?_ ?_ _) | (first | omega | (simp only [World.size_alloc, size_plus, World.size_drew, World.size_setCell] <;> omega) | (simp <;> omega)) | omega | (simp; omega))))); rintro e w' ⟨rfl, hb⟩; (first | (obtain ⟨X, rfl⟩ := plus_again hb) | (obtain ⟨X, rfl⟩ := plus_of_below hb)); clear hb)
              | (go_at_call 19; (with_reducible refine (HCK.out _ _ ?_).mono ?_); exact HR3.out.keep (below_keeps (by (repeat' (first | (with_reducible exact Below.refl _ _) | (with_reducible assumption) | (with_reducible refine below_plus ?_ ?_ _) | (with_reducible refine Below.alloc ?_ ?_ _) | (with_reducible refine Below.drew ?_) | (with_reducible refine below_drewN ?_ _) | (with_reducible refine Below.setCell ?_ ?_ _) | (first | omega | (simp only [World.size_alloc, size_plus, World.size_drew, World.size_setCell] <;> omega) | (simp <;> omega)) | omega | (simp; omega))))); rintro e w' ⟨rfl, hb⟩; (first | (obtain ⟨X, rfl⟩ := plus_again hb) | (obtain ⟨X, rfl⟩ := plus_of_below hb)); clear hb))
            go_ret
            exact ⟨rfl, below_plus HBF.out HBF.out.size _⟩
          · have hlt : m < k := by omega
            rw [show ((m + 1 : Nat) : Int) - 1 = (m : Int) by omega]
            obtain ⟨g, b, rfl, hc⟩ := at16 H.out hlt
            have hak := HA.out m hlt
            have htk := Lib.hid (ordB_ok HA.out (m + 1))
            have hck := below_keeps hO.one.below _ _ (hc m hlt)
            have hnext := Lib.hid (ordB_next a hlt)
            generalize ordB a k (m + 1) = t at hO htk hnext
            obtain ⟨t1, x1, hst⟩ : ∃ t1 x1, stepT t (a m) (1 + (a m : Int)) = (t1, x1) := ⟨_, _, rfl⟩
            have HN : Hid (ordB a k m = (t1, x1)) := hnext.out.trans hst
            have HSTEP : Hid (∀ cs W, RdVals W cs 12 (encR t.1 t.2) → Calls Try.prog 24 #[.agg cs, .int .i64 (a m), .int .i64 (1 + (a m : Int))] W (TreeOut t1 x1 0 W)) := fun cs W hr => by
              have := set_step htk.out (i := a m) (by omega) (1 + (a m : Int)) rfl cs W hr
              rw [hst] at this; exact this
            clear hnext hst htk
            have HO := Lib.hid hO
            clear hO hc
            go_upto_region 15 with fail
            have hS : (∀ j u, (cellsR t.1 t.2 (.slice A t.2.n cap)).toList[j]? = some u → wr.drew.cell? ⟨(W1.heap.size + 1), j, none⟩ = some u) ∧ wr.drew.cell? ⟨g, b + m, none⟩ = some (.int .u16 (a m)) := ⟨fun j u hj => HO.out.one.tree.cells j u hj, hck⟩
            refine wp_region_G (fun W => (∀ j u, (cellsR t.1 t.2 (.slice A t.2.n cap)).toList[j]? = some u → W.cell? ⟨(W1.heap.size + 1), j, none⟩ = some u) ∧ W.cell? ⟨g, b + m, none⟩ = some (.int .u16 (a m))) [16, 17] (by kernel_rfl) ?_
            refine wpAnyG_take (i := 0) (v := .agg (cellsR t.1 t.2 (.slice A t.2.n cap))) rfl (by kernel_rfl) (by kernel_rfl) (by kernel_rfl) (by kernel_rfl) (by kernel_rfl) (fun _ _ _ h => h) (Or.inl ⟨by rfl, fun W hW => run_loadR (.tmp 4) rfl (W1.heap.size + 1) rfl _ _ _ hW.1⟩) hS ?_
            try simp only [Act.put, List.setIfInBounds_toArray, List.set_cons_zero, List.set_cons_succ]
            refine wpAnyG_take (i := 1) (v := .slice (some ⟨g, b, none⟩) k cap0) rfl (by kernel_rfl) (by kernel_rfl) (by kernel_rfl) (by kernel_rfl) (by kernel_rfl) (fun _ _ _ h => h) (Or.inl ⟨by rfl, ?_⟩) hS ?_
            · intro W hW
              have hc := hW.2
              clear hW hS
              go_simp
              all_goals (try exact wrap_i64 (by omega) (by omega))
            try simp only [Act.put, List.setIfInBounds_toArray, List.set_cons_zero, List.set_cons_succ]
            refine wpAnyG_take (i := 2) (v := .int .i64 m) rfl (by kernel_rfl) (by kernel_rfl) (by kernel_rfl) (by kernel_rfl) (by kernel_rfl) (fun _ _ _ h => h) (Or.inl ⟨by rfl, ?_⟩) hS ?_
            · intro W hW
              have hc := hW.2
              clear hW hS
              go_simp
              all_goals (try exact wrap_i64 (by omega) (by omega))
            try simp only [Act.put, List.setIfInBounds_toArray, List.set_cons_zero, List.set_cons_succ]
            refine wpAnyG_take (i := 3) (v := .pointer (some ⟨g, b + m, none⟩)) rfl (by kernel_rfl) (by kernel_rfl) (by kernel_rfl) (by kernel_rfl) (by kernel_rfl) (fun _ _ _ h => h) (Or.inl ⟨by rfl, ?_⟩) hS ?_
            · intro W hW
              have hc := hW.2
              clear hW hS
              go_simp
              all_goals (try exact wrap_i64 (by omega) (by omega))
            try simp only [Act.put, List.setIfInBounds_toArray, List.set_cons_zero, List.set_cons_succ]
            refine wpAnyG_take (i := 4) (v := .int .u16 (a m)) rfl (by kernel_rfl) (by kernel_rfl) (by kernel_rfl) (by kernel_rfl) (by kernel_rfl) (fun _ _ _ h => h) (Or.inl ⟨by rfl, ?_⟩) hS ?_
            · intro W hW
              have hc := hW.2
              clear hW hS
              go_simp
              all_goals (try exact wrap_i64 (by omega) (by omega))
            try simp only [Act.put, List.setIfInBounds_toArray, List.set_cons_zero, List.set_cons_succ]
            refine wpAnyG_take (i := 5) (v := .int .i64 (a m)) rfl (by kernel_rfl) (by kernel_rfl) (by kernel_rfl) (by kernel_rfl) (by kernel_rfl) (fun _ _ _ h => h) (Or.inl ⟨by rfl, ?_⟩) hS ?_
            · intro W hW
              have hc := hW.2
              clear hW hS
              go_simp
              all_goals (try exact wrap_i64 (by omega) (by omega))
            try simp only [Act.put, List.setIfInBounds_toArray, List.set_cons_zero, List.set_cons_succ]
            refine wpAnyG_take (i := 6) (v := .slice (some ⟨g, b, none⟩) k cap0) rfl (by kernel_rfl) (by kernel_rfl) (by kernel_rfl) (by kernel_rfl) (by kernel_rfl) (fun _ _ _ h => h) (Or.inl ⟨by rfl, ?_⟩) hS ?_
            · intro W hW
              have hc := hW.2
              clear hW hS
              go_simp
              all_goals (try exact wrap_i64 (by omega) (by omega))
            try simp only [Act.put, List.setIfInBounds_toArray, List.set_cons_zero, List.set_cons_succ]
            refine wpAnyG_take (i := 7) (v := .int .i64 m) rfl (by kernel_rfl) (by kernel_rfl) (by kernel_rfl) (by kernel_rfl) (by kernel_rfl) (fun _ _ _ h => h) (Or.inl ⟨by rfl, ?_⟩) hS ?_
            · intro W hW
              have hc := hW.2
              clear hW hS
              go_simp
              all_goals (try exact wrap_i64 (by omega) (by omega))
            try simp only [Act.put, List.setIfInBounds_toArray, List.set_cons_zero, List.set_cons_succ]
            refine wpAnyG_take (i := 8) (v := .pointer (some ⟨g, b + m, none⟩)) rfl (by kernel_rfl) (by kernel_rfl) (by kernel_rfl) (by kernel_rfl) (by kernel_rfl) (fun _ _ _ h => h) (Or.inl ⟨by rfl, ?_⟩) hS ?_
            · intro W hW
              have hc := hW.2
              clear hW hS
              go_simp
              all_goals (try exact wrap_i64 (by omega) (by omega))
            try simp only [Act.put, List.setIfInBounds_toArray, List.set_cons_zero, List.set_cons_succ]
            refine wpAnyG_take (i := 9) (v := .int .u16 (a m)) rfl (by kernel_rfl) (by kernel_rfl) (by kernel_rfl) (by kernel_rfl) (by kernel_rfl) (fun _ _ _ h => h) (Or.inl ⟨by rfl, ?_⟩) hS ?_
            · intro W hW
              have hc := hW.2
              clear hW hS
              go_simp
              all_goals (try exact wrap_i64 (by omega) (by omega))
            try simp only [Act.put, List.setIfInBounds_toArray, List.set_cons_zero, List.set_cons_succ]
            refine wpAnyG_take (i := 10) (v := .int .i64 (a m)) rfl (by kernel_rfl) (by kernel_rfl) (by kernel_rfl) (by kernel_rfl) (by kernel_rfl) (fun _ _ _ h => h) (Or.inl ⟨by rfl, ?_⟩) hS ?_
            · intro W hW
              have hc := hW.2
              clear hW hS
              go_simp
              all_goals (try exact wrap_i64 (by omega) (by omega))
            try simp only [Act.put, List.setIfInBounds_toArray, List.set_cons_zero, List.set_cons_succ]
            refine wpAnyG_take (i := 11) (v := .int .i64 (1 + (a m : Int))) rfl (by kernel_rfl) (by kernel_rfl) (by kernel_rfl) (by kernel_rfl) (by kernel_rfl) (fun _ _ _ h => h) (Or.inl ⟨by rfl, ?_⟩) hS ?_
            · intro W hW
              have hc := hW.2
              clear hW hS
              go_simp
              all_goals (try exact wrap_i64 (by omega) (by omega))
            try simp only [Act.put, List.setIfInBounds_toArray, List.set_cons_zero, List.set_cons_succ]
            refine wpAnyG_one (i := 12) (by kernel_rfl) rfl (fun K' hK => ?_)
            have HKK := Lib.hid hK
            clear hK
            go_simp
            (with_reducible refine (HSTEP.out _ _ ?_).mono ?_); exact (HO.out.one.tree.below ((Below.refl _ _).drew)).rd
            rintro e W2 ⟨s1, rfl, hown1, hb1⟩
            obtain ⟨A1, cap1, rfl, -⟩ := hown1.slice
            have hbw : Below wr.heap.size wr W2 := ((Below.refl _ _).drew).trans (hb1.mono (by simp))
            have hS : (∀ j u, (cellsR t.1 t.2 (.slice A t.2.n cap)).toList[j]? = some u → W2.cell? ⟨(W1.heap.size + 1), j, none⟩ = some u) ∧ W2.cell? ⟨g, b + m, none⟩ = some (.int .u16 (a m)) := ⟨fun j u hj => below_keeps hbw _ _ (HO.out.one.tree.cells j u hj), below_keeps hbw _ _ hck⟩
            have HRG := Lib.hid (HO.out.one.tree.below hbw).blk
            have HT1 := Lib.hid (HO.out.store (u := (t1, x1)) hbw (hown1.mono fun b hb => by simpa using hb))
            clear hown1 hb1
            refine HKK.out _ _ (fun _ _ => hS) ?_
            clear HKK K'
            try simp only [Act.put, List.setIfInBounds_toArray, List.set_cons_zero, List.set_cons_succ]
            refine wpAnyG_take (i := 13) (v := .tuple #[.agg (cellsR t1 x1 (.slice A1 x1.n cap1)), .int .i64 0]) rfl (by kernel_rfl) (by kernel_rfl) (by kernel_rfl) (by kernel_rfl) (by kernel_rfl) (fun _ _ _ h => h) (Or.inl ⟨by rfl, ?_⟩) hS ?_
            · intro W hW
              have hc := hW.2
              clear hW hS
              go_simp
              all_goals (try exact wrap_i64 (by omega) (by omega))
            try simp only [Act.put, List.setIfInBounds_toArray, List.set_cons_zero, List.set_cons_succ]
            refine wpAnyG_take (i := 14) (v := .agg (cellsR t1 x1 (.slice A1 x1.n cap1))) rfl (by kernel_rfl) (by kernel_rfl) (by kernel_rfl) (by kernel_rfl) (by kernel_rfl) (fun _ _ _ h => h) (Or.inl ⟨by rfl, ?_⟩) hS ?_
            · intro W hW
              have hc := hW.2
              clear hW hS
              go_simp
              all_goals (try exact wrap_i64 (by omega) (by omega))
            try simp only [Act.put, List.setIfInBounds_toArray, List.set_cons_zero, List.set_cons_succ]
            refine wpAnyG_two (i := 15) (j := 16) (by kernel_rfl) rfl rfl (fun K' hK => ?_) (fun K' hK => ?_)
            · have HKK := Lib.hid hK
              clear hK
              go_simp
              refine HKK.out _ _ (fun _ _ => hS) ?_
              clear HKK K'
              try simp only [Act.put, List.setIfInBounds_toArray, List.set_cons_zero, List.set_cons_succ]
              refine wpAnyG_one (i := 16) (by kernel_rfl) rfl (fun K' hK => ?_)
              rw [if_pos (by kernel_rfl)]
              refine wp_store_row 28 (.tmp 4) (.tmp 63) rfl ((W1.heap.size + 1)) (cellsR t1 x1 (.slice A1 x1.n cap1)) rfl rfl 28 _ HRG.out sizeR (by rfl) (by simp [cellsR]; exact ⟨rfl, rfl, rfl, rfl, rfl, rfl, rfl, rfl, rfl, rfl, rfl, rfl⟩) ?_
              refine hK _ _ (fun h _ => absurd h (by decide)) ?_
              clear hK K'
              try simp only [Act.put, List.setIfInBounds_toArray, List.set_cons_zero, List.set_cons_succ]
              refine wpAnyG_one (i := 17) (by kernel_rfl) rfl (fun K' hK => ?_)
              have HKK := Lib.hid hK
              clear hK
              go_simp
              refine HKK.out _ _ (fun h _ => absurd h (by decide)) ?_
              clear HKK K'
              try simp only [Act.put, List.setIfInBounds_toArray, List.set_cons_zero, List.set_cons_succ]
              refine wpAnyG_done (by kernel_rfl) ?_ _
              clear hS
              go_wp2_with fail
              exact ⟨⟨m, by omega, by go_num, A1, cap1, _, A4, cap4, S4, by rw [HN.out]; exact HT1.out⟩, by simp [intOf]⟩
            · rw [if_pos (by kernel_rfl)]
              refine wp_store_row 28 (.tmp 4) (.tmp 63) rfl ((W1.heap.size + 1)) (cellsR t1 x1 (.slice A1 x1.n cap1)) rfl rfl 28 _ HRG.out sizeR (by rfl) (by simp [cellsR]; exact ⟨rfl, rfl, rfl, rfl, rfl, rfl, rfl, rfl, rfl, rfl, rfl, rfl⟩) ?_
              refine hK _ _ (fun h _ => absurd h (by decide)) ?_
              clear hK K'
              try simp only [Act.put, List.setIfInBounds_toArray, List.set_cons_zero, List.set_cons_succ]
              refine wpAnyG_one (i := 15) (by kernel_rfl) rfl (fun K' hK => ?_)
              have HKK := Lib.hid hK
              clear hK
              go_simp
              refine HKK.out _ _ (fun _ h => absurd h (by decide +kernel)) ?_
              clear HKK K'
              try simp only [Act.put, List.setIfInBounds_toArray, List.set_cons_zero, List.set_cons_succ]
              refine wpAnyG_one (i := 17) (by kernel_rfl) rfl (fun K' hK => ?_)
              have HKK := Lib.hid hK
              clear hK
              go_simp
              refine HKK.out _ _ (fun h _ => absurd h (by decide)) ?_
              clear HKK K'
              try simp only [Act.put, List.setIfInBounds_toArray, List.set_cons_zero, List.set_cons_succ]
              refine wpAnyG_done (by kernel_rfl) ?_ _
              clear hS
              go_wp2_with fail
              exact ⟨⟨m, by omega, by go_num, A1, cap1, _, A4, cap4, S4, by rw [HN.out]; exact HT1.out⟩, by simp [intOf]⟩
end Go.Proofs.Ytcicfijpfhbcaaa
