/-
  The law RadixEmpties.
-/
import Derived.Test.YtcicfijpfhbcaaaEs
namespace Go.Proofs.Ytcicfijpfhbcaaa
set_option linter.unusedSimpArgs false
set_option linter.unusedVariables false
set_option linter.unusedSectionVars false
open Go.RowKit

theorem empT_end {l : List Nat} (hl : ∀ i ∈ l, i < 65536) : (empT l).1 = 0 ∧ absentB (empT l).2 = true := by
  have h0 := (emp_zero hl).1
  refine ⟨h0, ?_⟩
  rcases emp_absent hl with h | h
  · exact h.2
  · omega
def empA (a : Nat → Nat) (k : Nat) : Nat × RN := fillT (fun i => i * 16384) (fun _ => -7) ((List.range k).map a) (0, zeroN)
def empB (a : Nat → Nat) (n k : Nat) : Nat × RN := fillT (fun i => i * 16384) (fun _ => 0) ((List.range k).map a) (empA a n)
theorem empA_ok {a : Nat → Nat} {n : Nat} (ha : ∀ i, i < n → a i < 65536) {k : Nat} (hk : k ≤ n) : okT (empA a k).1 (empA a k).2 :=
  (fill_ok _ _ _ (0, zeroN) (fun i hi => by
    obtain ⟨j, hj, rfl⟩ := List.mem_map.1 hi
    have := ha j (by have := List.mem_range.1 hj; omega)
    omega) okT_zero).1
theorem empB_ok {a : Nat → Nat} {n : Nat} (ha : ∀ i, i < n → a i < 65536) {k : Nat} (hk : k ≤ n) : okT (empB a n k).1 (empB a n k).2 :=
  (fill_ok _ _ _ (empA a n) (fun i hi => by
    obtain ⟨j, hj, rfl⟩ := List.mem_map.1 hi
    have := ha j (by have := List.mem_range.1 hj; omega)
    omega) (empA_ok ha (Nat.le_refl n))).1
theorem empB_end {a : Nat → Nat} {n : Nat} (ha : ∀ i, i < n → a i < 65536) : (empB a n n).1 = 0 ∧ sameB (empB a n n).2 zeroN = true ∧ absentB (empB a n n).2 = true := by
  have hl : ∀ i ∈ (List.range n).map a, i < 65536 := fun i hi => by
    obtain ⟨j, hj, rfl⟩ := List.mem_map.1 hi
    exact ha j (List.mem_range.1 hj)
  exact ⟨(emp_zero hl).1, (emp_zero hl).2, (empT_end hl).2⟩

set_option maxRecDepth 100000 in
set_option maxHeartbeats 1000000 in
theorem l_Empties (A0 : Option Addr) (cap0 n : Nat) (a : Nat → Nat) (w : World) (h : RdC w (d16 a n) (.slice A0 n cap0)) (ha : ∀ i, i < n → a i < 65536) :
    Calls Try.prog 6 #[.slice A0 n cap0] w fun e w' => e = .returned (.bool true) ∧ Below w.heap.size w w' := by
  have hcap := d16_cap h
  have hmax : (n : Int) ≤ 9223372036854775807 := by have := hcap.1; have := hcap.2; unfold maxLen at this; omega
  by_cases h40 : 40 < n
  · have h40' : (40 : Int) < (n : Int) := by omega
    go_enter Try.func6, Try.ntmps6
    go_wp2_with (first | (go_at_call 17; refine (l_awake _).mono ?_; rintro e w' ⟨rfl, hb⟩; (first | (obtain ⟨X, rfl⟩ := plus_again hb) | (obtain ⟨X, rfl⟩ := plus_of_below hb)); clear hb))
    go_ret
    exact ⟨rfl, by (repeat' (first | (with_reducible exact Below.refl _ _) | (with_reducible assumption) | (with_reducible refine below_plus ?_ ?_ _) | (with_reducible refine Below.alloc ?_ ?_ _) | (with_reducible refine Below.drew ?_) | (with_reducible refine below_drewN ?_ _) | (with_reducible refine Below.setCell ?_ ?_ _) | (first | omega | (simp only [World.size_alloc, size_plus, World.size_drew, World.size_setCell] <;> omega) | (simp <;> omega)) | omega | (simp; omega)))⟩
  · have h40' : (n : Int) ≤ 40 := by omega
    have HA := Lib.hid ha
    have H := Lib.hid h
    clear h ha h40
    go_enter Try.func6, Try.ntmps6
    go_wp2_with (first
      | (go_at_call 17; refine (l_awake _).mono ?_; rintro e w' ⟨rfl, hb⟩; (first | (obtain ⟨X, rfl⟩ := plus_again hb) | (obtain ⟨X, rfl⟩ := plus_of_below hb)); clear hb)
      | (go_at_call 22; refine (p_New _).mono ?_; rintro e W0 ⟨rfl, hb0⟩; (have HB0 := Lib.hid (below_trans (below_plus (Below.refl w.heap.size w) (Nat.le_refl _) X) (hb0.mono (by simp)))); clear hb0)
      | ((with_reducible refine wpList_storeR_new (.tmp 3) (.tmp 15) ?_ ?_ W0.heap.size ?_ 0 zeroN none 0 0 ?_ rfl rfl ?_); (with_reducible rfl); rfl; rfl; rfl))
    go_loopw [18] (fun i wr => ∃ k : Nat, k ≤ n ∧ i = .int .i64 k ∧ ∃ A cap S, OneT w W0.heap.size (empA a k) A cap S wr) (fun i _ => n - (intOf i).toNat)
    case atStart => exact ⟨0, by omega, rfl, none, 0, fun _ => False, ⟨heap_alloc_here _ _ _ rfl, OwnK.none_ rfl, id⟩, HB0.out.alloc HB0.out.size _, HB0.out.size⟩
    case round =>
      obtain ⟨k, hk, rfl, A, cap, S, hO⟩ := hrel
      by_cases hlt : k < n
      · obtain ⟨g, b, rfl, hc⟩ := at16 H.out hlt
        have hak := HA.out k hlt
        have htk := Lib.hid (empA_ok HA.out (k := k) (by omega))
        have hck := below_keeps hO.below _ _ (hc k hlt)
        have hnext : Hid (empA a (k + 1) = stepT (empA a k) (a k * 16384) (-7)) := fill_next _ _ _ _ _
        generalize empA a k = t at hO htk hnext
        obtain ⟨t1, x1, hst⟩ : ∃ t1 x1, stepT t (a k * 16384) (-7) = (t1, x1) := ⟨_, _, rfl⟩
        have HN : Hid (empA a (k + 1) = (t1, x1)) := hnext.out.trans hst
        have HSTEP : Hid (∀ cs W, RdVals W cs 12 (encR t.1 t.2) → Calls Try.prog 24 #[.agg cs, .int .i64 ((a k : Int) * 16384), .int .i64 (-7)] W (TreeOut t1 x1 0 W)) := fun cs W hr => by
          have := set_step htk.out (i := a k * 16384) (by omega) (-7) (i' := (a k : Int) * 16384) (by push_cast; rfl) cs W hr
          rw [hst] at this; exact this
        clear hnext hst htk
        have HO := Lib.hid hO
        clear hO hc
        go_upto_region 8 with fail
        have hS : (∀ j u, (cellsR t.1 t.2 (.slice A t.2.n cap)).toList[j]? = some u → wr.drew.cell? ⟨W0.heap.size, j, none⟩ = some u) ∧ wr.drew.cell? ⟨g, b + k, none⟩ = some (.int .u16 (a k)) := ⟨fun j u hj => HO.out.tree.cells j u hj, hck⟩
        refine wp_region_G (fun W => (∀ j u, (cellsR t.1 t.2 (.slice A t.2.n cap)).toList[j]? = some u → W.cell? ⟨W0.heap.size, j, none⟩ = some u) ∧ W.cell? ⟨g, b + k, none⟩ = some (.int .u16 (a k))) [11, 12] (by kernel_rfl) ?_
        refine wpAnyG_take (i := 0) (v := .agg (cellsR t.1 t.2 (.slice A t.2.n cap))) rfl (by kernel_rfl) (by kernel_rfl) (by kernel_rfl) (by kernel_rfl) (by kernel_rfl) (fun _ _ _ h => h) (Or.inl ⟨by rfl, fun W hW => run_loadR (.tmp 3) rfl W0.heap.size rfl _ _ _ hW.1⟩) hS ?_
        try simp only [Act.put, List.setIfInBounds_toArray, List.set_cons_zero, List.set_cons_succ]
        refine wpAnyG_take (i := 1) (v := .slice (some ⟨g, b, none⟩) n cap0) rfl (by kernel_rfl) (by kernel_rfl) (by kernel_rfl) (by kernel_rfl) (by kernel_rfl) (fun _ _ _ h => h) (Or.inl ⟨by rfl, ?_⟩) hS ?_
        · intro W hW
          have hc := hW.2
          clear hW hS
          go_simp
          all_goals (try exact wrap_i64 (by omega) (by omega))
        try simp only [Act.put, List.setIfInBounds_toArray, List.set_cons_zero, List.set_cons_succ]
        refine wpAnyG_take (i := 2) (v := .int .i64 k) rfl (by kernel_rfl) (by kernel_rfl) (by kernel_rfl) (by kernel_rfl) (by kernel_rfl) (fun _ _ _ h => h) (Or.inl ⟨by rfl, ?_⟩) hS ?_
        · intro W hW
          have hc := hW.2
          clear hW hS
          go_simp
          all_goals (try exact wrap_i64 (by omega) (by omega))
        try simp only [Act.put, List.setIfInBounds_toArray, List.set_cons_zero, List.set_cons_succ]
        refine wpAnyG_take (i := 3) (v := .pointer (some ⟨g, b + k, none⟩)) rfl (by kernel_rfl) (by kernel_rfl) (by kernel_rfl) (by kernel_rfl) (by kernel_rfl) (fun _ _ _ h => h) (Or.inl ⟨by rfl, ?_⟩) hS ?_
        · intro W hW
          have hc := hW.2
          clear hW hS
          go_simp
          all_goals (try exact wrap_i64 (by omega) (by omega))
        try simp only [Act.put, List.setIfInBounds_toArray, List.set_cons_zero, List.set_cons_succ]
        refine wpAnyG_take (i := 4) (v := .int .u16 (a k)) rfl (by kernel_rfl) (by kernel_rfl) (by kernel_rfl) (by kernel_rfl) (by kernel_rfl) (fun _ _ _ h => h) (Or.inl ⟨by rfl, ?_⟩) hS ?_
        · intro W hW
          have hc := hW.2
          clear hW hS
          go_simp
          all_goals (try exact wrap_i64 (by omega) (by omega))
        try simp only [Act.put, List.setIfInBounds_toArray, List.set_cons_zero, List.set_cons_succ]
        refine wpAnyG_take (i := 5) (v := .int .i64 (a k)) rfl (by kernel_rfl) (by kernel_rfl) (by kernel_rfl) (by kernel_rfl) (by kernel_rfl) (fun _ _ _ h => h) (Or.inl ⟨by rfl, ?_⟩) hS ?_
        · intro W hW
          have hc := hW.2
          clear hW hS
          go_simp
          all_goals (try exact wrap_i64 (by omega) (by omega))
        try simp only [Act.put, List.setIfInBounds_toArray, List.set_cons_zero, List.set_cons_succ]
        refine wpAnyG_take (i := 6) (v := .int .i64 ((a k : Int) * 16384)) rfl (by kernel_rfl) (by kernel_rfl) (by kernel_rfl) (by kernel_rfl) (by kernel_rfl) (fun _ _ _ h => h) (Or.inl ⟨by rfl, ?_⟩) hS ?_
        · intro W hW
          have hc := hW.2
          clear hW hS
          go_simp
          all_goals (try exact wrap_i64 (by omega) (by omega))
        try simp only [Act.put, List.setIfInBounds_toArray, List.set_cons_zero, List.set_cons_succ]
        refine wpAnyG_one (i := 7) (by kernel_rfl) rfl (fun K' hK => ?_)
        have HKK := Lib.hid hK
        clear hK
        go_simp
        (with_reducible refine (HSTEP.out _ _ ?_).mono ?_); exact (HO.out.tree.below ((Below.refl _ _).drew)).rd
        rintro e W1 ⟨s1, rfl, hown1, hb1⟩
        obtain ⟨A1, cap1, rfl, -⟩ := hown1.slice
        have hbw : Below wr.heap.size wr W1 := ((Below.refl _ _).drew).trans (hb1.mono (by simp))
        have hS : (∀ j u, (cellsR t.1 t.2 (.slice A t.2.n cap)).toList[j]? = some u → W1.cell? ⟨W0.heap.size, j, none⟩ = some u) ∧ W1.cell? ⟨g, b + k, none⟩ = some (.int .u16 (a k)) := ⟨fun j u hj => below_keeps hbw _ _ (HO.out.tree.cells j u hj), below_keeps hbw _ _ hck⟩
        have HRG := Lib.hid (HO.out.tree.below hbw).blk
        have HT1 := Lib.hid (HO.out.store (t' := (t1, x1)) hbw (hown1.mono fun b hb => by simpa using hb))
        clear hown1 hb1
        refine HKK.out _ _ (fun _ _ => hS) ?_
        clear HKK K'
        try simp only [Act.put, List.setIfInBounds_toArray, List.set_cons_zero, List.set_cons_succ]
        refine wpAnyG_take (i := 8) (v := .tuple #[.agg (cellsR t1 x1 (.slice A1 x1.n cap1)), .int .i64 0]) rfl (by kernel_rfl) (by kernel_rfl) (by kernel_rfl) (by kernel_rfl) (by kernel_rfl) (fun _ _ _ h => h) (Or.inl ⟨by rfl, ?_⟩) hS ?_
        · intro W hW
          have hc := hW.2
          clear hW hS
          go_simp
          all_goals (try exact wrap_i64 (by omega) (by omega))
        try simp only [Act.put, List.setIfInBounds_toArray, List.set_cons_zero, List.set_cons_succ]
        refine wpAnyG_take (i := 9) (v := .agg (cellsR t1 x1 (.slice A1 x1.n cap1))) rfl (by kernel_rfl) (by kernel_rfl) (by kernel_rfl) (by kernel_rfl) (by kernel_rfl) (fun _ _ _ h => h) (Or.inl ⟨by rfl, ?_⟩) hS ?_
        · intro W hW
          have hc := hW.2
          clear hW hS
          go_simp
          all_goals (try exact wrap_i64 (by omega) (by omega))
        try simp only [Act.put, List.setIfInBounds_toArray, List.set_cons_zero, List.set_cons_succ]
        refine wpAnyG_two (i := 10) (j := 11) (by kernel_rfl) rfl rfl (fun K' hK => ?_) (fun K' hK => ?_)
        · have HKK := Lib.hid hK
          clear hK
          go_simp
          refine HKK.out _ _ (fun _ _ => hS) ?_
          clear HKK K'
          try simp only [Act.put, List.setIfInBounds_toArray, List.set_cons_zero, List.set_cons_succ]
          refine wpAnyG_one (i := 11) (by kernel_rfl) rfl (fun K' hK => ?_)
          rw [if_pos (by kernel_rfl)]
          refine wp_store_row 28 (.tmp 3) (.tmp 30) rfl (W0.heap.size) (cellsR t1 x1 (.slice A1 x1.n cap1)) rfl rfl 28 _ HRG.out sizeR (by rfl) (by simp [cellsR]; exact ⟨rfl, rfl, rfl, rfl, rfl, rfl, rfl, rfl, rfl, rfl, rfl, rfl⟩) ?_
          refine hK _ _ (fun h _ => absurd h (by decide)) ?_
          clear hK K'
          try simp only [Act.put, List.setIfInBounds_toArray, List.set_cons_zero, List.set_cons_succ]
          refine wpAnyG_one (i := 12) (by kernel_rfl) rfl (fun K' hK => ?_)
          have HKK := Lib.hid hK
          clear hK
          go_simp
          refine HKK.out _ _ (fun h _ => absurd h (by decide)) ?_
          clear HKK K'
          try simp only [Act.put, List.setIfInBounds_toArray, List.set_cons_zero, List.set_cons_succ]
          refine wpAnyG_done (by kernel_rfl) ?_ _
          clear hS
          go_wp2_with fail
          exact ⟨⟨k + 1, by omega, by go_num, A1, cap1, _, by rw [HN.out]; exact HT1.out⟩, by simp [intOf]; omega⟩
        · rw [if_pos (by kernel_rfl)]
          refine wp_store_row 28 (.tmp 3) (.tmp 30) rfl (W0.heap.size) (cellsR t1 x1 (.slice A1 x1.n cap1)) rfl rfl 28 _ HRG.out sizeR (by rfl) (by simp [cellsR]; exact ⟨rfl, rfl, rfl, rfl, rfl, rfl, rfl, rfl, rfl, rfl, rfl, rfl⟩) ?_
          refine hK _ _ (fun h _ => absurd h (by decide)) ?_
          clear hK K'
          try simp only [Act.put, List.setIfInBounds_toArray, List.set_cons_zero, List.set_cons_succ]
          refine wpAnyG_one (i := 10) (by kernel_rfl) rfl (fun K' hK => ?_)
          have HKK := Lib.hid hK
          clear hK
          go_simp
          refine HKK.out _ _ (fun _ h => absurd h (by decide +kernel)) ?_
          clear HKK K'
          try simp only [Act.put, List.setIfInBounds_toArray, List.set_cons_zero, List.set_cons_succ]
          refine wpAnyG_one (i := 12) (by kernel_rfl) rfl (fun K' hK => ?_)
          have HKK := Lib.hid hK
          clear hK
          go_simp
          refine HKK.out _ _ (fun h _ => absurd h (by decide)) ?_
          clear HKK K'
          try simp only [Act.put, List.setIfInBounds_toArray, List.set_cons_zero, List.set_cons_succ]
          refine wpAnyG_done (by kernel_rfl) ?_ _
          clear hS
          go_wp2_with fail
          exact ⟨⟨k + 1, by omega, by go_num, A1, cap1, _, by rw [HN.out]; exact HT1.out⟩, by simp [intOf]; omega⟩
      · obtain rfl : k = n := by omega
        have HO := Lib.hid hO
        clear hO
        go_wp2_with fail
        go_loopw [37] (fun i wr => ∃ m : Nat, m ≤ k ∧ i = .int .i64 m ∧ ∃ A cap S, OneT w W0.heap.size (empB a k m) A cap S wr) (fun i _ => k - (intOf i).toNat)
        case atStart => exact ⟨0, by omega, rfl, A, cap, S, HO.out⟩
        case round =>
          obtain ⟨m, hk, rfl, A, cap, S, hO⟩ := hrel
          by_cases hlt : m < k
          · obtain ⟨g, b, rfl, hc⟩ := at16 H.out hlt
            have hak := HA.out m hlt
            have htk := Lib.hid (empB_ok HA.out (k := m) (by omega))
            have hck := below_keeps hO.below _ _ (hc m hlt)
            have hnext : Hid (empB a k (m + 1) = stepT (empB a k m) (a m * 16384) 0) := fill_next _ _ _ _ _
            generalize empB a k m = t at hO htk hnext
            obtain ⟨t1, x1, hst⟩ : ∃ t1 x1, stepT t (a m * 16384) 0 = (t1, x1) := ⟨_, _, rfl⟩
            have HN : Hid (empB a k (m + 1) = (t1, x1)) := hnext.out.trans hst
            have HSTEP : Hid (∀ cs W, RdVals W cs 12 (encR t.1 t.2) → Calls Try.prog 24 #[.agg cs, .int .i64 ((a m : Int) * 16384), .int .i64 0] W (TreeOut t1 x1 0 W)) := fun cs W hr => by
              have := set_step htk.out (i := a m * 16384) (by omega) 0 (i' := (a m : Int) * 16384) (by push_cast; rfl) cs W hr
              rw [hst] at this; exact this
            clear hnext hst htk
            have HO := Lib.hid hO
            clear hO hc
            go_upto_region 15 with fail
            have hS : (∀ j u, (cellsR t.1 t.2 (.slice A t.2.n cap)).toList[j]? = some u → wr.drew.cell? ⟨W0.heap.size, j, none⟩ = some u) ∧ wr.drew.cell? ⟨g, b + m, none⟩ = some (.int .u16 (a m)) := ⟨fun j u hj => HO.out.tree.cells j u hj, hck⟩
            refine wp_region_G (fun W => (∀ j u, (cellsR t.1 t.2 (.slice A t.2.n cap)).toList[j]? = some u → W.cell? ⟨W0.heap.size, j, none⟩ = some u) ∧ W.cell? ⟨g, b + m, none⟩ = some (.int .u16 (a m))) [11, 12] (by kernel_rfl) ?_
            refine wpAnyG_take (i := 0) (v := .agg (cellsR t.1 t.2 (.slice A t.2.n cap))) rfl (by kernel_rfl) (by kernel_rfl) (by kernel_rfl) (by kernel_rfl) (by kernel_rfl) (fun _ _ _ h => h) (Or.inl ⟨by rfl, fun W hW => run_loadR (.tmp 3) rfl W0.heap.size rfl _ _ _ hW.1⟩) hS ?_
            try simp only [Act.put, List.setIfInBounds_toArray, List.set_cons_zero, List.set_cons_succ]
            refine wpAnyG_take (i := 1) (v := .slice (some ⟨g, b, none⟩) k cap0) rfl (by kernel_rfl) (by kernel_rfl) (by kernel_rfl) (by kernel_rfl) (by kernel_rfl) (fun _ _ _ h => h) (Or.inl ⟨by rfl, ?_⟩) hS ?_
            · intro W hW
              have hc := hW.2
              clear hW hS
              go_simp
              all_goals (try exact wrap_i64 (by omega) (by omega))
            try simp only [Act.put, List.setIfInBounds_toArray, List.set_cons_zero, List.set_cons_succ]
            refine wpAnyG_take (i := 2) (v := .int .i64 m) rfl (by kernel_rfl) (by kernel_rfl) (by kernel_rfl) (by kernel_rfl) (by kernel_rfl) (fun _ _ _ h => h) (Or.inl ⟨by rfl, ?_⟩) hS ?_
            · intro W hW
              have hc := hW.2
              clear hW hS
              go_simp
              all_goals (try exact wrap_i64 (by omega) (by omega))
            try simp only [Act.put, List.setIfInBounds_toArray, List.set_cons_zero, List.set_cons_succ]
            refine wpAnyG_take (i := 3) (v := .pointer (some ⟨g, b + m, none⟩)) rfl (by kernel_rfl) (by kernel_rfl) (by kernel_rfl) (by kernel_rfl) (by kernel_rfl) (fun _ _ _ h => h) (Or.inl ⟨by rfl, ?_⟩) hS ?_
            · intro W hW
              have hc := hW.2
              clear hW hS
              go_simp
              all_goals (try exact wrap_i64 (by omega) (by omega))
            try simp only [Act.put, List.setIfInBounds_toArray, List.set_cons_zero, List.set_cons_succ]
            refine wpAnyG_take (i := 4) (v := .int .u16 (a m)) rfl (by kernel_rfl) (by kernel_rfl) (by kernel_rfl) (by kernel_rfl) (by kernel_rfl) (fun _ _ _ h => h) (Or.inl ⟨by rfl, ?_⟩) hS ?_
            · intro W hW
              have hc := hW.2
              clear hW hS
              go_simp
              all_goals (try exact wrap_i64 (by omega) (by omega))
            try simp only [Act.put, List.setIfInBounds_toArray, List.set_cons_zero, List.set_cons_succ]
            refine wpAnyG_take (i := 5) (v := .int .i64 (a m)) rfl (by kernel_rfl) (by kernel_rfl) (by kernel_rfl) (by kernel_rfl) (by kernel_rfl) (fun _ _ _ h => h) (Or.inl ⟨by rfl, ?_⟩) hS ?_
            · intro W hW
              have hc := hW.2
              clear hW hS
              go_simp
              all_goals (try exact wrap_i64 (by omega) (by omega))
            try simp only [Act.put, List.setIfInBounds_toArray, List.set_cons_zero, List.set_cons_succ]
            refine wpAnyG_take (i := 6) (v := .int .i64 ((a m : Int) * 16384)) rfl (by kernel_rfl) (by kernel_rfl) (by kernel_rfl) (by kernel_rfl) (by kernel_rfl) (fun _ _ _ h => h) (Or.inl ⟨by rfl, ?_⟩) hS ?_
            · intro W hW
              have hc := hW.2
              clear hW hS
              go_simp
              all_goals (try exact wrap_i64 (by omega) (by omega))
            try simp only [Act.put, List.setIfInBounds_toArray, List.set_cons_zero, List.set_cons_succ]
            refine wpAnyG_one (i := 7) (by kernel_rfl) rfl (fun K' hK => ?_)
            have HKK := Lib.hid hK
            clear hK
            go_simp
            (with_reducible refine (HSTEP.out _ _ ?_).mono ?_); exact (HO.out.tree.below ((Below.refl _ _).drew)).rd
            rintro e W1 ⟨s1, rfl, hown1, hb1⟩
            obtain ⟨A1, cap1, rfl, -⟩ := hown1.slice
            have hbw : Below wr.heap.size wr W1 := ((Below.refl _ _).drew).trans (hb1.mono (by simp))
            have hS : (∀ j u, (cellsR t.1 t.2 (.slice A t.2.n cap)).toList[j]? = some u → W1.cell? ⟨W0.heap.size, j, none⟩ = some u) ∧ W1.cell? ⟨g, b + m, none⟩ = some (.int .u16 (a m)) := ⟨fun j u hj => below_keeps hbw _ _ (HO.out.tree.cells j u hj), below_keeps hbw _ _ hck⟩
            have HRG := Lib.hid (HO.out.tree.below hbw).blk
            have HT1 := Lib.hid (HO.out.store (t' := (t1, x1)) hbw (hown1.mono fun b hb => by simpa using hb))
            clear hown1 hb1
            refine HKK.out _ _ (fun _ _ => hS) ?_
            clear HKK K'
            try simp only [Act.put, List.setIfInBounds_toArray, List.set_cons_zero, List.set_cons_succ]
            refine wpAnyG_take (i := 8) (v := .tuple #[.agg (cellsR t1 x1 (.slice A1 x1.n cap1)), .int .i64 0]) rfl (by kernel_rfl) (by kernel_rfl) (by kernel_rfl) (by kernel_rfl) (by kernel_rfl) (fun _ _ _ h => h) (Or.inl ⟨by rfl, ?_⟩) hS ?_
            · intro W hW
              have hc := hW.2
              clear hW hS
              go_simp
              all_goals (try exact wrap_i64 (by omega) (by omega))
            try simp only [Act.put, List.setIfInBounds_toArray, List.set_cons_zero, List.set_cons_succ]
            refine wpAnyG_take (i := 9) (v := .agg (cellsR t1 x1 (.slice A1 x1.n cap1))) rfl (by kernel_rfl) (by kernel_rfl) (by kernel_rfl) (by kernel_rfl) (by kernel_rfl) (fun _ _ _ h => h) (Or.inl ⟨by rfl, ?_⟩) hS ?_
            · intro W hW
              have hc := hW.2
              clear hW hS
              go_simp
              all_goals (try exact wrap_i64 (by omega) (by omega))
            try simp only [Act.put, List.setIfInBounds_toArray, List.set_cons_zero, List.set_cons_succ]
            refine wpAnyG_two (i := 10) (j := 11) (by kernel_rfl) rfl rfl (fun K' hK => ?_) (fun K' hK => ?_)
            · have HKK := Lib.hid hK
              clear hK
              go_simp
              refine HKK.out _ _ (fun _ _ => hS) ?_
              clear HKK K'
              try simp only [Act.put, List.setIfInBounds_toArray, List.set_cons_zero, List.set_cons_succ]
              refine wpAnyG_one (i := 11) (by kernel_rfl) rfl (fun K' hK => ?_)
              rw [if_pos (by kernel_rfl)]
              refine wp_store_row 28 (.tmp 3) (.tmp 49) rfl (W0.heap.size) (cellsR t1 x1 (.slice A1 x1.n cap1)) rfl rfl 28 _ HRG.out sizeR (by rfl) (by simp [cellsR]; exact ⟨rfl, rfl, rfl, rfl, rfl, rfl, rfl, rfl, rfl, rfl, rfl, rfl⟩) ?_
              refine hK _ _ (fun h _ => absurd h (by decide)) ?_
              clear hK K'
              try simp only [Act.put, List.setIfInBounds_toArray, List.set_cons_zero, List.set_cons_succ]
              refine wpAnyG_one (i := 12) (by kernel_rfl) rfl (fun K' hK => ?_)
              have HKK := Lib.hid hK
              clear hK
              go_simp
              refine HKK.out _ _ (fun h _ => absurd h (by decide)) ?_
              clear HKK K'
              try simp only [Act.put, List.setIfInBounds_toArray, List.set_cons_zero, List.set_cons_succ]
              refine wpAnyG_done (by kernel_rfl) ?_ _
              clear hS
              go_wp2_with fail
              exact ⟨⟨m + 1, by omega, by go_num, A1, cap1, _, by rw [HN.out]; exact HT1.out⟩, by simp [intOf]; omega⟩
            · rw [if_pos (by kernel_rfl)]
              refine wp_store_row 28 (.tmp 3) (.tmp 49) rfl (W0.heap.size) (cellsR t1 x1 (.slice A1 x1.n cap1)) rfl rfl 28 _ HRG.out sizeR (by rfl) (by simp [cellsR]; exact ⟨rfl, rfl, rfl, rfl, rfl, rfl, rfl, rfl, rfl, rfl, rfl, rfl⟩) ?_
              refine hK _ _ (fun h _ => absurd h (by decide)) ?_
              clear hK K'
              try simp only [Act.put, List.setIfInBounds_toArray, List.set_cons_zero, List.set_cons_succ]
              refine wpAnyG_one (i := 10) (by kernel_rfl) rfl (fun K' hK => ?_)
              have HKK := Lib.hid hK
              clear hK
              go_simp
              refine HKK.out _ _ (fun _ h => absurd h (by decide +kernel)) ?_
              clear HKK K'
              try simp only [Act.put, List.setIfInBounds_toArray, List.set_cons_zero, List.set_cons_succ]
              refine wpAnyG_one (i := 12) (by kernel_rfl) rfl (fun K' hK => ?_)
              have HKK := Lib.hid hK
              clear hK
              go_simp
              refine HKK.out _ _ (fun h _ => absurd h (by decide)) ?_
              clear HKK K'
              try simp only [Act.put, List.setIfInBounds_toArray, List.set_cons_zero, List.set_cons_succ]
              refine wpAnyG_done (by kernel_rfl) ?_ _
              clear hS
              go_wp2_with fail
              exact ⟨⟨m + 1, by omega, by go_num, A1, cap1, _, by rw [HN.out]; exact HT1.out⟩, by simp [intOf]; omega⟩
          · obtain rfl : m = k := by omega
            have hE := empB_end HA.out
            have HO := Lib.hid hO
            clear hO
            generalize empB a m m = t at hE HO
            obtain ⟨th, x⟩ := t
            obtain ⟨h0, hsm, -⟩ := hE
            have hth : th = 0 := h0
            subst hth
            have hsm' : sameB x zeroN = true := hsm
            have HC := Lib.hid HO.out.tree.cells
            have HRD := Lib.hid HO.out.tree.rd
            have c0 := HO.out.tree.cells 0 _ rfl
            have c1 := HO.out.tree.cells 1 _ rfl
            have c2 := HO.out.tree.cells 2 _ rfl
            have c3 := HO.out.tree.cells 3 _ rfl
            have c4 := HO.out.tree.cells 4 _ rfl
            have c5 := HO.out.tree.cells 5 _ rfl
            have c6 := HO.out.tree.cells 6 _ rfl
            have c7 := HO.out.tree.cells 7 _ rfl
            have c8 := HO.out.tree.cells 8 _ rfl
            have c9 := HO.out.tree.cells 9 _ rfl
            have c10 := HO.out.tree.cells 10 _ rfl
            have c11 := HO.out.tree.cells 11 _ rfl
            have HSM : Hid (∀ cs W, RdVals W cs 12 (encR 0 x) → Calls Try.prog 21 #[.agg cs, .agg (cellsR 0 zeroN (.slice none 0 0))] W fun e w' => e = .returned (.bool true) ∧ Below W.heap.size W w') := fun cs W hr => by
              have := r_Same cs (cellsR 0 zeroN (.slice none 0 0)) 0 0 x zeroN W hr (rdR_shut (OwnK.none_ (w := W) (S := fun _ => False) (x := zeroN) rfl).rd)
              rw [show sameT 0 0 x zeroN = true by unfold sameT; rw [hsm']; rfl] at this
              exact this
            have HNX : Hid (∀ cs W, RdVals W cs 12 (encR 0 x) → Calls Try.prog 28 #[.agg cs, .int .i64 0, .int .i64 (-1)] W fun e w' => e = .returned (.int .i64 (-1)) ∧ Below W.heap.size W w') := fun cs W hr => by
              have := p_Next cs 0 x 0 (-1) W hr
              rw [show nextP 0 x 0 (-1) = -1 by unfold nextP eachL; rw [if_neg (by omega), if_pos (.inr (.inl rfl))]; rfl] at this
              exact this
            have hgl : W0.heap.size < wr.heap.size := HO.out.tree.lt
            have HBF := Lib.hid HO.out.below
            clear hsm hsm' HO
            go_upto_region 19 with fail
            have hz : (0, x).2 = x := rfl
            simp only [hz] at c1 c2 c3 c4 c5 c6 c7 c8 c9 c10 c11
            (refine wp_region_quiet_plus (by kernel_rfl) (by kernel_rfl) ?_; (repeat (go_big_quiet_step ((first
              | (go_at_call 22; exact Calls.quiet_plus (p_New _))
              | (go_at_call 21; exact Calls.quiet_plus (HSM.out _ _ (HRD.out.keep (below_keeps (by (repeat' (first | (with_reducible exact Below.refl _ _) | (with_reducible assumption) | (with_reducible refine below_plus ?_ ?_ _) | (with_reducible refine Below.alloc ?_ ?_ _) | (with_reducible refine Below.drew ?_) | (with_reducible refine below_drewN ?_ _) | (with_reducible refine Below.setCell ?_ ?_ _) | (first | omega | (simp only [World.size_alloc, size_plus, World.size_drew, World.size_setCell] <;> omega) | (simp <;> omega)) | omega | (simp; omega))))))))
              | (go_at_call 28; exact Calls.quiet_plus (HNX.out _ _ (HRD.out.keep (below_keeps (by (repeat' (first | (with_reducible exact Below.refl _ _) | (with_reducible assumption) | (with_reducible refine below_plus ?_ ?_ _) | (with_reducible refine Below.alloc ?_ ?_ _) | (with_reducible refine Below.drew ?_) | (with_reducible refine below_drewN ?_ _) | (with_reducible refine Below.setCell ?_ ?_ _) | (first | omega | (simp only [World.size_alloc, size_plus, World.size_drew, World.size_setCell] <;> omega) | (simp <;> omega)) | omega | (simp; omega)))))))))))); refine wpQuiet_nil ?_; intro _)
            go_wp2_with fail
            go_ret
            exact ⟨rfl, below_plus HBF.out HBF.out.size _⟩
end Go.Proofs.Ytcicfijpfhbcaaa
