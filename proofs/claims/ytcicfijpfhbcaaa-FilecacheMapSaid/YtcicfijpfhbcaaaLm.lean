/-
  The law FilecacheMap.
-/
import Derived.Test.YtcicfijpfhbcaaaQs
import Derived.Test.YtcicfijpfhbcaaaOn
namespace Go.Proofs.Ytcicfijpfhbcaaa
set_option linter.unusedSimpArgs false
set_option linter.unusedVariables false
set_option linter.unusedSectionVars false
open Go.RowKit

set_option maxRecDepth 100000 in
set_option maxHeartbeats 1000000 in
theorem m_Map (A0 : Option Addr) (cap0 n : Nat) (a : Nat → OpW) (w : World) (h : RdC w (dOw a n) (.slice A0 n cap0)) :
    Calls Try.prog 15 #[.slice A0 n cap0] w fun e w' => e = .returned (.bool true) ∧ Below w.heap.size w w' := by
  have hcap := ow_cap h
  have hmax : (n : Int) ≤ 9223372036854775807 := by have := hcap.1; have := hcap.2; unfold maxLen at this; omega
  by_cases h40 : (60 : Int) < (n : Int)
  · go_enter Try.func15, Try.ntmps15
    go_wp2_with (first | (go_at_call 40; refine (m_awake _).mono ?_; rintro e w' ⟨rfl, hb⟩; (first | (obtain ⟨X, rfl⟩ := plus_again hb) | (obtain ⟨X, rfl⟩ := plus_of_below hb)); clear hb))
    go_ret
    exact ⟨rfl, by (repeat' (first | (with_reducible exact Below.refl _ _) | (with_reducible assumption) | (with_reducible refine below_plus ?_ ?_ _) | (with_reducible refine Below.alloc ?_ ?_ _) | (with_reducible refine Below.drew ?_) | (with_reducible refine below_drewN ?_ _) | (with_reducible refine Below.setCell ?_ ?_ _) | (first | omega | (simp only [World.size_alloc, size_plus, World.size_drew, World.size_setCell] <;> omega) | (simp <;> omega)) | omega | (simp; omega)))⟩
  have h40' : (n : Int) ≤ 60 := by omega
  have H := Lib.hid h
  clear h h40
  go_enter Try.func15, Try.ntmps15
  go_wp2_with fail
  generalize hV : World.alloc (World.alloc w _) _ = V
  have hw : Below w.heap.size w V := by rw [← hV]; (repeat' (first | (with_reducible exact Below.refl _ _) | (with_reducible assumption) | (with_reducible refine below_plus ?_ ?_ _) | (with_reducible refine Below.alloc ?_ ?_ _) | (with_reducible refine Below.drew ?_) | (with_reducible refine below_drewN ?_ _) | (with_reducible refine Below.setCell ?_ ?_ _) | (first | omega | (simp only [World.size_alloc, size_plus, World.size_drew, World.size_setCell] <;> omega) | (simp <;> omega)) | omega | (simp; omega)))
  have hbx : V.heap[w.heap.size]? = some (.cells (cellsR 0 zeroN (.slice none 0 0)) 28 (0, 0)) := by rw [← hV]; exact ((below_alloc _ _).block _ (by (first | omega | (simp only [World.size_alloc, size_plus, World.size_drew, World.size_setCell] <;> omega) | (simp <;> omega)))).trans (heap_alloc_here _ _ _ rfl)
  have hmp : MapAt V (w.heap.size + 1) (fillM 0) := ⟨Try.zeroCells60, by rw [← hV]; exact heap_alloc_here _ _ _ (by (first | omega | (simp only [World.size_alloc, size_plus, World.size_drew, World.size_setCell] <;> omega) | (simp <;> omega))), zero_map⟩
  have HW := Lib.hid hw
  have HBX := Lib.hid hbx
  have HMP := Lib.hid hmp
  clear hV hw hbx hmp
  go_loopw [14] (fun iv wr => ∃ k : Nat, k ≤ 24 ∧ iv = .int .i64 k ∧ MapAt wr (w.heap.size + 1) (fillM k) ∧ wr.heap[w.heap.size]? = some (.cells (cellsR 0 zeroN (.slice none 0 0)) 28 (0, 0)) ∧ Below w.heap.size w wr) (fun iv _ => 24 - (intOf iv).toNat)
  case atStart => exact ⟨0, by omega, rfl, HMP.out, HBX.out, HW.out⟩
  case round =>
    obtain ⟨k, hk, rfl, hm, hb, hbl⟩ := hrel
    clear HW HBX HMP
    by_cases hlt : k < 24
    · have hkI : (k : Int) < 24 := by omega
      have HM := Lib.hid hm
      have HB := Lib.hid hb
      have HBL := Lib.hid hbl
      clear hm hb hbl
      go_wp2_with ((with_reducible refine wpList_storePg (.tmp 19) (.tmp 18) ?_ ?_ (w.heap.size + 1) k ?_ pg0 ?_ HM.out hlt ?_); (with_reducible rfl); rfl; rfl; rfl; (intro W4 hm4 ht4); have HM4 := Lib.hid hm4; have HT4 := Lib.hid ht4; clear hm4 ht4)
      exact ⟨⟨k + 1, by omega, by go_num, by rw [fillM_succ]; exact HM4.out, (HT4.out.far _ (lt_of_heap HB.out) (by omega)).trans HB.out, HBL.out.trans (HT4.out.below (by omega) HBL.out.size)⟩, by simp [intOf]; omega⟩
    · obtain rfl : k = 24 := by omega
      have hst : MpS w w.heap.size (w.heap.size + 1) (fun _ => pg0) (0, zeroN) none 0 (fun _ => False) wr := MpS.start (fill_end hm) hb hbl (by omega) (by omega) (by omega)
      have HST := Lib.hid hst
      clear hm hb hbl hst
      go_wp2_with fail
      go_loopw [23] (fun iv wr => ∃ (k : Nat) (t : Nat × RN) (A : Option Addr) (cap : Nat) (S : Nat → Prop) (m : Nat → Pg), k ≤ n ∧ iv = .int .i64 k ∧ MpS w w.heap.size (w.heap.size + 1) m t A cap S wr) (fun iv _ => n - (intOf iv).toNat)
      case atStart => exact ⟨0, _, _, _, _, _, by omega, rfl, HST.out⟩
      case round =>
        obtain ⟨k, t, A, cap, S, m, hk, rfl, hst⟩ := hrel
        clear HST
        by_cases hlt : k < n
        · have hltI : (k : Int) < (n : Int) := by omega
          obtain ⟨go, b, rfl, hc⟩ := at_ow H.out hlt
          have hck : ∀ j, j < 3 → wr.cell? ⟨go, b + (k * 3 + j), none⟩ = some (owCell (a k) j) := fun j hj => below_keeps hst.below _ _ (hc j hj)
          rcases hak : a k with ⟨kd, ix, f⟩
          rw [hak] at hck
          have c0 : wr.cell? ⟨go, b + k * 3, none⟩ = some (.int .i64 kd) := hck 0 (by omega)
          have c1 : wr.cell? ⟨go, b + k * 3 + 1, none⟩ = some (.int .i64 ix) := hck 1 (by omega)
          have c2 : wr.cell? ⟨go, b + k * 3 + 2, none⟩ = some (.int .i64 f) := hck 2 (by omega)
          have hgo := World.block_lt_of_cell? wr _ c0
          have r0 := row12 hst.bx
          have l0 := lt_of_heap hst.bx
          have HPL : Hid (∀ cs W, cs = cellsR t.1 t.2 (.slice A t.2.n cap) → Below wr.heap.size wr W → Calls Try.prog 64 #[.agg cs, .pointer (some ⟨w.heap.size + 1, 0, none⟩), .agg #[.int .i64 kd, .int .i64 ix, .int .i64 f]] W (PlayPost (w.heap.size + 1) S W)) := fun cs W e hb => by
            subst e
            have h1 := hst.stay hb
            exact m_play t A cap S m (w.heap.size + 1) (kd, ix, f) W h1.okm h1.cp h1.mp h1.own fun e => (h1.S_ _ e).2 rfl
          have HS := Lib.hid hst
          clear hc hck hak hst
          go_wp2_with (first
            | (go_at_call 64; (with_reducible refine (HPL.out _ _ ?_ ?_).mono ?_); exact rfl; (repeat' (first | (with_reducible exact Below.refl _ _) | (with_reducible assumption) | (with_reducible refine below_plus ?_ ?_ _) | (with_reducible refine Below.alloc ?_ ?_ _) | (with_reducible refine Below.drew ?_) | (with_reducible refine below_drewN ?_ _) | (with_reducible refine Below.setCell ?_ ?_ _) | (first | omega | (simp only [World.size_alloc, size_plus, World.size_drew, World.size_setCell] <;> omega) | (simp <;> omega)) | omega | (simp; omega))); rintro e W1 ⟨t1, A1, cap1, S1, m1, rfl, hm1, hc1, hM1, hO1, hS1, hT1⟩; have HP1 := Lib.hid (fun (X : World) (hb2 : Below W1.heap.size W1 X) => HS.out.play (by (repeat' (first | (with_reducible exact Below.refl _ _) | (with_reducible assumption) | (with_reducible refine below_plus ?_ ?_ _) | (with_reducible refine Below.alloc ?_ ?_ _) | (with_reducible refine Below.drew ?_) | (with_reducible refine below_drewN ?_ _) | (with_reducible refine Below.setCell ?_ ?_ _) | (first | omega | (simp only [World.size_alloc, size_plus, World.size_drew, World.size_setCell] <;> omega) | (simp <;> omega)) | omega | (simp; omega)))) hm1 hc1 hM1 hO1 hS1 hT1 hb2); clear hm1 hc1 hM1 hO1 hS1 hT1 c0 c1 c2 r0 l0)
            | ((with_reducible refine wpList_storeR_new (.tmp 8) (.tmp 31) ?_ ?_ W1.heap.size ?_ t1.1 t1.2 A1 t1.2.n cap1 ?_ rfl rfl ?_); (with_reducible rfl); rfl; rfl; rfl; generalize hV2 : World.alloc W1 _ = V2; (have hb2 : Below W1.heap.size W1 V2 := by rw [← hV2]; exact below_alloc _ _); (have hg2 : V2.heap[W1.heap.size]? = some (.cells (cellsR t1.1 t1.2 (.slice A1 t1.2.n cap1)) 28 (0, 0)) := by rw [← hV2]; exact heap_alloc_new _ _); have HP2 := Lib.hid (HP1.out V2 hb2); have d2 := row12 hg2; have l2 := lt_of_heap hg2; clear hV2 hb2 hg2)
            | ((with_reducible refine wpList_storeR (.tmp 3) (.tmp 35) ?_ ?_ w.heap.size ?_ t1.1 t1.2 A1 t1.2.n cap1 ?_ _ 28 HP2.out.2 rfl ?_); (with_reducible rfl); rfl; rfl; rfl))
          constructor
          · (repeat apply Exists.intro)
            exact ⟨⟨k + 1, t1, A1, cap1, S1, m1, by omega, by go_num, HP2.out.1⟩, rfl⟩
          · simp [intOf]; omega
        · obtain rfl : k = n := by omega
          obtain ⟨row, hg, hrow⟩ := hst.mp
          have hag := fun cs (e : cs = cellsR t.1 t.2 (.slice A t.2.n cap)) => e ▸ m_agrees t A cap m row wr hst.okm hst.cp hst.rd hrow
          have HAG : Hid (∀ cs, cs = cellsR t.1 t.2 (.slice A t.2.n cap) → Calls Try.prog 65 #[.agg cs, .agg row] wr fun e w' => e = .returned (.bool true) ∧ Below wr.heap.size wr w') := hag
          have r0 := row12 hst.bx
          have l0 := lt_of_heap hst.bx
          have HG := Lib.hid hg
          have HRW := Lib.hid hrow.1
          have HBW := Lib.hid hst.below
          clear hag hst hg hrow
          go_wp2_with (first
            | ((with_reducible refine wpList_loadM (.tmp 4) ?_ ?_ (w.heap.size + 1) ?_ row HRW.out _ HG.out ?_); (with_reducible rfl); rfl; rfl)
            | (go_at_call 65; (with_reducible refine (HAG.out _ ?_).mono ?_); exact rfl; rintro e w' ⟨rfl, hb⟩; (first | (obtain ⟨X, rfl⟩ := plus_again hb) | (obtain ⟨X, rfl⟩ := plus_of_below hb)); clear hb)
            | (go_at_call 40; refine (m_awake _).mono ?_; rintro e w' ⟨rfl, hb⟩; (first | (obtain ⟨X, rfl⟩ := plus_again hb) | (obtain ⟨X, rfl⟩ := plus_of_below hb)); clear hb))
          go_ret
          exact ⟨rfl, below_plus HBW.out HBW.out.size _⟩
end Go.Proofs.Ytcicfijpfhbcaaa
