/-
  Whether a cache agrees with its map: the law's agrees.
-/
import Derived.Test.YtcicfijpfhbcaaaQa
import Derived.Test.YtcicfijpfhbcaaaCk
namespace Go.Proofs.Ytcicfijpfhbcaaa
set_option linter.unusedSimpArgs false
set_option linter.unusedVariables false
set_option linter.unusedSectionVars false
open Go.RowKit

set_option maxRecDepth 100000 in
set_option maxHeartbeats 1000000 in
theorem m_agrees (t : Nat × RN) (A : Option Addr) (cap : Nat) (m : Nat → Pg) (row : Array Value) (w : World) (hm : okM m) (hc : Cp (mF m) t) (hr : RdVals w (cellsR t.1 t.2 (.slice A t.2.n cap)) 12 (encR t.1 t.2)) (hrow : MapR row m) :
    Calls Try.prog 65 #[.agg (cellsR t.1 t.2 (.slice A t.2.n cap)), .agg row] w fun e w' => e = .returned (.bool true) ∧ Below w.heap.size w w' := by
  have HR := Lib.hid hr
  have hv := cm_vOk hm hc
  have HFR : Hid (∀ k : Nat, k < 24 → ∀ cs W, RdVals W cs 12 (encR t.1 t.2) → Calls Try.prog 43 #[.agg cs, .int .i64 k] W fun e w' => e = .returned (.int .i64 (m k).1) ∧ Below W.heap.size W w') := fun k hk cs W h => by
    have := c_Frame cs t.1 t.2 k W h hv (by omega) (by omega)
    rwa [cm_frame hm hc hk] at this
  have HSH : Hid (∀ k : Nat, k < 24 → ∀ cs W, RdVals W cs 12 (encR t.1 t.2) → Calls Try.prog 45 #[.agg cs, .int .i64 k] W fun e w' => e = .returned (.int .i64 (m k).2.1) ∧ Below W.heap.size W w') := fun k hk cs W h => by
    have := c_Shadow cs t.1 t.2 k W h hv (by omega) (by omega)
    rwa [cm_shadow hm hc hk] at this
  have HFS : Hid (∀ cs W, RdVals W cs 12 (encR t.1 t.2) → Calls Try.prog 50 #[.agg cs] W fun e w' => ∃ v, e = .returned v ∧ OwnI w' W.heap.size (goneM m 0 24) v ∧ Below W.heap.size W w') := fun cs W h => by
    have := c_Frames cs t.1 t.2 W h hv
    rwa [cm_frames hm hc] at this
  have HND : Hid (∀ cs W, RdVals W cs 12 (encR t.1 t.2) → Calls Try.prog 47 #[.agg cs, .int .i64 0] W fun e w' => e = .returned (.int .i64 (dirtyM m 24)) ∧ Below W.heap.size W w') := fun cs W h => by
    have := c_NextDirty cs t.1 t.2 0 W h hv
    rwa [cm_next hm hc] at this
  have HCK : Hid (∀ cs W, RdVals W cs 12 (encR t.1 t.2) → Calls Try.prog 41 #[.agg cs] W fun e w' => e = .returned (.int .i64 0) ∧ Below W.heap.size W w') := fun cs W h => by
    have := c_Check cs t.1 t.2 W h hv
    rwa [cm_check hm hc] at this
  have HRW := Lib.hid hrow
  clear hm hc hr hv hrow
  go_enter Try.func65, Try.ntmps65
  go_wp2_with fail
  generalize hV : World.alloc (World.alloc w _) _ = V
  have hw : Below w.heap.size w V := by rw [← hV]; (repeat' (first | (with_reducible exact Below.refl _ _) | (with_reducible assumption) | (with_reducible refine below_plus ?_ ?_ _) | (with_reducible refine Below.alloc ?_ ?_ _) | (with_reducible refine Below.drew ?_) | (with_reducible refine below_drewN ?_ _) | (with_reducible refine Below.setCell ?_ ?_ _) | (first | omega | (simp only [World.size_alloc, size_plus, World.size_drew, World.size_setCell] <;> omega) | (simp <;> omega)) | omega | (simp; omega)))
  have hbx : V.heap[w.heap.size]? = some (.cells (cellsR t.1 t.2 (.slice A t.2.n cap)) 28 (0, 0)) := by rw [← hV]; exact ((below_alloc _ _).block _ (by (first | omega | (simp only [World.size_alloc, size_plus, World.size_drew, World.size_setCell] <;> omega) | (simp <;> omega)))).trans (heap_alloc_here _ _ _ rfl)
  have hmp : MapAt V (w.heap.size + 1) m := ⟨row, by rw [← hV]; exact heap_alloc_here _ _ _ (by (first | omega | (simp only [World.size_alloc, size_plus, World.size_drew, World.size_setCell] <;> omega) | (simp <;> omega))), HRW.out⟩
  have HW := Lib.hid hw
  have HBX := Lib.hid hbx
  have HMP := Lib.hid hmp
  clear hV hw hbx hmp
  go_loopw [5, 6, 8] (fun fv dv iv wr => ∃ k : Nat, k ≤ 24 ∧ iv = .int .i64 k ∧ dv = .int .i64 (dirtyM m k) ∧ OwnI wr V.heap.size (goneM m 0 k) fv ∧ Below V.heap.size V wr) (fun _ _ iv _ => 24 - (intOf iv).toNat)
  case atStart => exact ⟨0, by omega, rfl, rfl, by rw [gone_start]; exact OwnI.nil _ _, Below.refl _ _⟩
  case round =>
    obtain ⟨k, hk, rfl, rfl, hI, hbl⟩ := hrel
    by_cases hlt : k < 24
    · have hkI : (k : Int) < 24 := by omega
      obtain ⟨A1, cap1, rfl, -, -⟩ := hI.slice
      have hll : (goneM m 0 k).length ≤ 1073741824 := by have := gone_len m 0 k; omega
      have HCELL : Hid (∀ W, Below V.heap.size V W → (W.cell? ⟨w.heap.size + 1, k * 3, none⟩ = some (.int .i64 (m k).1) ∧ W.cell? ⟨w.heap.size + 1, k * 3 + 1, none⟩ = some (.int .i64 (m k).2.1) ∧ W.cell? ⟨w.heap.size + 1, k * 3 + 2, none⟩ = some (.bool (m k).2.2)) ∧ w.heap.size + 1 < W.heap.size) := fun W hW => by
        have h := HMP.out.keep (hW.block _ HMP.out.lt)
        exact ⟨⟨h.cell (j := 0) hlt (by omega), h.cell (j := 1) hlt (by omega), h.cell (j := 2) hlt (by omega)⟩, h.lt⟩
      have HFK := Lib.hid (HFR.out k hlt)
      have HSK := Lib.hid (HSH.out k hlt)
      have HG := Lib.hid (gone_succ m 0 k)
      have HD := Lib.hid (dirty_succ m k)
      have hb0 := hbl
      have hbox : wr.heap[w.heap.size]? = some (.cells (cellsR t.1 t.2 (.slice A t.2.n cap)) 28 (0, 0)) := (hbl.block _ (lt_of_heap HBX.out)).trans HBX.out
      have c0 := HCELL.out wr hbl
      have r0 := row12 hbox
      have l0 := lt_of_heap hbox
      have HI := Lib.hid hI
      have HBL := Lib.hid hbl
      have hrd : RdVals wr (cellsR t.1 t.2 (.slice A t.2.n cap)) 12 (encR t.1 t.2) := HR.out.keep (below_keeps (HW.out.trans (hbl.mono HW.out.size)))
      have HRD := Lib.hid hrd
      clear hI hbl hb0 hbox hrd
      generalize goneM m 0 k = lf at *
      generalize dirtyM m k = dk at *
      generalize (m k).1 = fr at *
      generalize (m k).2.1 = sh at *
      have hfb : (fr != fr) = false := by simp
      have hsb : (sh != sh) = false := by simp
      by_cases h0 : 0 ≤ fr
      · cases hd : (m k).2.2
        · skip
          unfold Hid at HG HD
          rw [if_pos ⟨Nat.zero_le _, h0⟩] at HG
          rw [hd] at HD c0 HCELL
          rw [if_neg (fun e => by cases e.1)] at HD
          have HG := Lib.hid HG
          have HD := Lib.hid HD
          go_upto_region 6 with fail
          (refine wp_region_quiet_plus (by kernel_rfl) (by kernel_rfl) ?_; (repeat (go_big_quiet_step ((first
            | (go_at_call 43; (with_reducible refine Calls.quiet_plus (HFK.out _ _ ?_)); exact HRD.out.keep (below_keeps (by (repeat' (first | (with_reducible exact Below.refl _ _) | (with_reducible assumption) | (with_reducible refine below_plus ?_ ?_ _) | (with_reducible refine Below.alloc ?_ ?_ _) | (with_reducible refine Below.drew ?_) | (with_reducible refine below_drewN ?_ _) | (with_reducible refine Below.setCell ?_ ?_ _) | (first | omega | (simp only [World.size_alloc, size_plus, World.size_drew, World.size_setCell] <;> omega) | (simp <;> omega)) | omega | (simp; omega))))))
            | (go_at_call 45; (with_reducible refine Calls.quiet_plus (HSK.out _ _ ?_)); exact HRD.out.keep (below_keeps (by (repeat' (first | (with_reducible exact Below.refl _ _) | (with_reducible assumption) | (with_reducible refine below_plus ?_ ?_ _) | (with_reducible refine Below.alloc ?_ ?_ _) | (with_reducible refine Below.drew ?_) | (with_reducible refine below_drewN ?_ _) | (with_reducible refine Below.setCell ?_ ?_ _) | (first | omega | (simp only [World.size_alloc, size_plus, World.size_drew, World.size_setCell] <;> omega) | (simp <;> omega)) | omega | (simp; omega)))))))))); refine wpQuiet_nil ?_; intro _)
          generalize hW2 : World.plus _ _ = W2
          have hb2 : Below wr.heap.size wr W2 := by rw [← hW2]; exact below_plus (Below.refl _ _) (Nat.le_refl _) _
          have HB2 : Hid (Below V.heap.size V W2) := HBL.out.trans (hb2.mono HBL.out.size)
          have HI2 := Lib.hid (HI.out.below hb2)
          have c2 := HCELL.out W2 HB2.out
          have hsz2 := HB2.out.size
          clear hW2 hb2 c0 r0 l0
          go_wp2_with ((with_reducible refine wpList_appendI ?_ (.tmp 34) (.tmp 39) ?_ V.heap.size lf _ ?_ HI2.out fr _ ?_ hsz2 hll ?_); rfl; (with_reducible rfl); rfl; rfl; (intro v2 W3 ha); (have hb3 : Below V.heap.size V W3 := (HB2.out.alloc hsz2 _).trans ha.below); have c3 := HCELL.out W3 hb3; have HB3 := Lib.hid hb3; have HI3 := Lib.hid ha.own; clear ha hb3 c2)
          exact ⟨⟨k + 1, by omega, by go_num, by rw [HD.out], by rw [HG.out]; exact HI3.out, HB3.out⟩, by simp [intOf]; omega⟩
        · by_cases hlow : dk < 0
          · skip
            unfold Hid at HG HD
            rw [if_pos ⟨Nat.zero_le _, h0⟩] at HG
            rw [hd] at HD c0 HCELL
            rw [if_pos ⟨rfl, hlow⟩] at HD
            have HG := Lib.hid HG
            have HD := Lib.hid HD
            go_upto_region 6 with fail
            (refine wp_region_quiet_plus (by kernel_rfl) (by kernel_rfl) ?_; (repeat (go_big_quiet_step ((first
              | (go_at_call 43; (with_reducible refine Calls.quiet_plus (HFK.out _ _ ?_)); exact HRD.out.keep (below_keeps (by (repeat' (first | (with_reducible exact Below.refl _ _) | (with_reducible assumption) | (with_reducible refine below_plus ?_ ?_ _) | (with_reducible refine Below.alloc ?_ ?_ _) | (with_reducible refine Below.drew ?_) | (with_reducible refine below_drewN ?_ _) | (with_reducible refine Below.setCell ?_ ?_ _) | (first | omega | (simp only [World.size_alloc, size_plus, World.size_drew, World.size_setCell] <;> omega) | (simp <;> omega)) | omega | (simp; omega))))))
              | (go_at_call 45; (with_reducible refine Calls.quiet_plus (HSK.out _ _ ?_)); exact HRD.out.keep (below_keeps (by (repeat' (first | (with_reducible exact Below.refl _ _) | (with_reducible assumption) | (with_reducible refine below_plus ?_ ?_ _) | (with_reducible refine Below.alloc ?_ ?_ _) | (with_reducible refine Below.drew ?_) | (with_reducible refine below_drewN ?_ _) | (with_reducible refine Below.setCell ?_ ?_ _) | (first | omega | (simp only [World.size_alloc, size_plus, World.size_drew, World.size_setCell] <;> omega) | (simp <;> omega)) | omega | (simp; omega)))))))))); refine wpQuiet_nil ?_; intro _)
            generalize hW2 : World.plus _ _ = W2
            have hb2 : Below wr.heap.size wr W2 := by rw [← hW2]; exact below_plus (Below.refl _ _) (Nat.le_refl _) _
            have HB2 : Hid (Below V.heap.size V W2) := HBL.out.trans (hb2.mono HBL.out.size)
            have HI2 := Lib.hid (HI.out.below hb2)
            have c2 := HCELL.out W2 HB2.out
            have hsz2 := HB2.out.size
            clear hW2 hb2 c0 r0 l0
            go_wp2_with ((with_reducible refine wpList_appendI ?_ (.tmp 34) (.tmp 39) ?_ V.heap.size lf _ ?_ HI2.out fr _ ?_ hsz2 hll ?_); rfl; (with_reducible rfl); rfl; rfl; (intro v2 W3 ha); (have hb3 : Below V.heap.size V W3 := (HB2.out.alloc hsz2 _).trans ha.below); have c3 := HCELL.out W3 hb3; have HB3 := Lib.hid hb3; have HI3 := Lib.hid ha.own; clear ha hb3 c2)
            exact ⟨⟨k + 1, by omega, by go_num, by rw [HD.out], by rw [HG.out]; exact HI3.out, HB3.out⟩, by simp [intOf]; omega⟩
          · skip
            unfold Hid at HG HD
            rw [if_pos ⟨Nat.zero_le _, h0⟩] at HG
            rw [hd] at HD c0 HCELL
            rw [if_neg (fun e => hlow e.2)] at HD
            have HG := Lib.hid HG
            have HD := Lib.hid HD
            go_upto_region 6 with fail
            (refine wp_region_quiet_plus (by kernel_rfl) (by kernel_rfl) ?_; (repeat (go_big_quiet_step ((first
              | (go_at_call 43; (with_reducible refine Calls.quiet_plus (HFK.out _ _ ?_)); exact HRD.out.keep (below_keeps (by (repeat' (first | (with_reducible exact Below.refl _ _) | (with_reducible assumption) | (with_reducible refine below_plus ?_ ?_ _) | (with_reducible refine Below.alloc ?_ ?_ _) | (with_reducible refine Below.drew ?_) | (with_reducible refine below_drewN ?_ _) | (with_reducible refine Below.setCell ?_ ?_ _) | (first | omega | (simp only [World.size_alloc, size_plus, World.size_drew, World.size_setCell] <;> omega) | (simp <;> omega)) | omega | (simp; omega))))))
              | (go_at_call 45; (with_reducible refine Calls.quiet_plus (HSK.out _ _ ?_)); exact HRD.out.keep (below_keeps (by (repeat' (first | (with_reducible exact Below.refl _ _) | (with_reducible assumption) | (with_reducible refine below_plus ?_ ?_ _) | (with_reducible refine Below.alloc ?_ ?_ _) | (with_reducible refine Below.drew ?_) | (with_reducible refine below_drewN ?_ _) | (with_reducible refine Below.setCell ?_ ?_ _) | (first | omega | (simp only [World.size_alloc, size_plus, World.size_drew, World.size_setCell] <;> omega) | (simp <;> omega)) | omega | (simp; omega)))))))))); refine wpQuiet_nil ?_; intro _)
            generalize hW2 : World.plus _ _ = W2
            have hb2 : Below wr.heap.size wr W2 := by rw [← hW2]; exact below_plus (Below.refl _ _) (Nat.le_refl _) _
            have HB2 : Hid (Below V.heap.size V W2) := HBL.out.trans (hb2.mono HBL.out.size)
            have HI2 := Lib.hid (HI.out.below hb2)
            have c2 := HCELL.out W2 HB2.out
            have hsz2 := HB2.out.size
            clear hW2 hb2 c0 r0 l0
            go_wp2_with ((with_reducible refine wpList_appendI ?_ (.tmp 34) (.tmp 39) ?_ V.heap.size lf _ ?_ HI2.out fr _ ?_ hsz2 hll ?_); rfl; (with_reducible rfl); rfl; rfl; (intro v2 W3 ha); (have hb3 : Below V.heap.size V W3 := (HB2.out.alloc hsz2 _).trans ha.below); have c3 := HCELL.out W3 hb3; have HB3 := Lib.hid hb3; have HI3 := Lib.hid ha.own; clear ha hb3 c2)
            exact ⟨⟨k + 1, by omega, by go_num, by rw [HD.out], by rw [HG.out]; exact HI3.out, HB3.out⟩, by simp [intOf]; omega⟩
      · cases hd : (m k).2.2
        · skip
          unfold Hid at HG HD
          rw [if_neg (fun e => h0 e.2)] at HG
          rw [hd] at HD c0 HCELL
          rw [if_neg (fun e => by cases e.1)] at HD
          have HG := Lib.hid HG
          have HD := Lib.hid HD
          go_upto_region 6 with fail
          (refine wp_region_quiet_plus (by kernel_rfl) (by kernel_rfl) ?_; (repeat (go_big_quiet_step ((first
            | (go_at_call 43; (with_reducible refine Calls.quiet_plus (HFK.out _ _ ?_)); exact HRD.out.keep (below_keeps (by (repeat' (first | (with_reducible exact Below.refl _ _) | (with_reducible assumption) | (with_reducible refine below_plus ?_ ?_ _) | (with_reducible refine Below.alloc ?_ ?_ _) | (with_reducible refine Below.drew ?_) | (with_reducible refine below_drewN ?_ _) | (with_reducible refine Below.setCell ?_ ?_ _) | (first | omega | (simp only [World.size_alloc, size_plus, World.size_drew, World.size_setCell] <;> omega) | (simp <;> omega)) | omega | (simp; omega))))))
            | (go_at_call 45; (with_reducible refine Calls.quiet_plus (HSK.out _ _ ?_)); exact HRD.out.keep (below_keeps (by (repeat' (first | (with_reducible exact Below.refl _ _) | (with_reducible assumption) | (with_reducible refine below_plus ?_ ?_ _) | (with_reducible refine Below.alloc ?_ ?_ _) | (with_reducible refine Below.drew ?_) | (with_reducible refine below_drewN ?_ _) | (with_reducible refine Below.setCell ?_ ?_ _) | (first | omega | (simp only [World.size_alloc, size_plus, World.size_drew, World.size_setCell] <;> omega) | (simp <;> omega)) | omega | (simp; omega)))))))))); refine wpQuiet_nil ?_; intro _)
          generalize hW2 : World.plus _ _ = W2
          have hb2 : Below wr.heap.size wr W2 := by rw [← hW2]; exact below_plus (Below.refl _ _) (Nat.le_refl _) _
          have HB2 : Hid (Below V.heap.size V W2) := HBL.out.trans (hb2.mono HBL.out.size)
          have HI2 := Lib.hid (HI.out.below hb2)
          have c2 := HCELL.out W2 HB2.out
          have hsz2 := HB2.out.size
          clear hW2 hb2 c0 r0 l0
          go_wp2_with fail
          exact ⟨⟨k + 1, by omega, by go_num, by rw [HD.out], by rw [HG.out]; exact HI2.out, HB2.out⟩, by simp [intOf]; omega⟩
        · by_cases hlow : dk < 0
          · skip
            unfold Hid at HG HD
            rw [if_neg (fun e => h0 e.2)] at HG
            rw [hd] at HD c0 HCELL
            rw [if_pos ⟨rfl, hlow⟩] at HD
            have HG := Lib.hid HG
            have HD := Lib.hid HD
            go_upto_region 6 with fail
            (refine wp_region_quiet_plus (by kernel_rfl) (by kernel_rfl) ?_; (repeat (go_big_quiet_step ((first
              | (go_at_call 43; (with_reducible refine Calls.quiet_plus (HFK.out _ _ ?_)); exact HRD.out.keep (below_keeps (by (repeat' (first | (with_reducible exact Below.refl _ _) | (with_reducible assumption) | (with_reducible refine below_plus ?_ ?_ _) | (with_reducible refine Below.alloc ?_ ?_ _) | (with_reducible refine Below.drew ?_) | (with_reducible refine below_drewN ?_ _) | (with_reducible refine Below.setCell ?_ ?_ _) | (first | omega | (simp only [World.size_alloc, size_plus, World.size_drew, World.size_setCell] <;> omega) | (simp <;> omega)) | omega | (simp; omega))))))
              | (go_at_call 45; (with_reducible refine Calls.quiet_plus (HSK.out _ _ ?_)); exact HRD.out.keep (below_keeps (by (repeat' (first | (with_reducible exact Below.refl _ _) | (with_reducible assumption) | (with_reducible refine below_plus ?_ ?_ _) | (with_reducible refine Below.alloc ?_ ?_ _) | (with_reducible refine Below.drew ?_) | (with_reducible refine below_drewN ?_ _) | (with_reducible refine Below.setCell ?_ ?_ _) | (first | omega | (simp only [World.size_alloc, size_plus, World.size_drew, World.size_setCell] <;> omega) | (simp <;> omega)) | omega | (simp; omega)))))))))); refine wpQuiet_nil ?_; intro _)
            generalize hW2 : World.plus _ _ = W2
            have hb2 : Below wr.heap.size wr W2 := by rw [← hW2]; exact below_plus (Below.refl _ _) (Nat.le_refl _) _
            have HB2 : Hid (Below V.heap.size V W2) := HBL.out.trans (hb2.mono HBL.out.size)
            have HI2 := Lib.hid (HI.out.below hb2)
            have c2 := HCELL.out W2 HB2.out
            have hsz2 := HB2.out.size
            clear hW2 hb2 c0 r0 l0
            go_wp2_with fail
            exact ⟨⟨k + 1, by omega, by go_num, by rw [HD.out], by rw [HG.out]; exact HI2.out, HB2.out⟩, by simp [intOf]; omega⟩
          · skip
            unfold Hid at HG HD
            rw [if_neg (fun e => h0 e.2)] at HG
            rw [hd] at HD c0 HCELL
            rw [if_neg (fun e => hlow e.2)] at HD
            have HG := Lib.hid HG
            have HD := Lib.hid HD
            go_upto_region 6 with fail
            (refine wp_region_quiet_plus (by kernel_rfl) (by kernel_rfl) ?_; (repeat (go_big_quiet_step ((first
              | (go_at_call 43; (with_reducible refine Calls.quiet_plus (HFK.out _ _ ?_)); exact HRD.out.keep (below_keeps (by (repeat' (first | (with_reducible exact Below.refl _ _) | (with_reducible assumption) | (with_reducible refine below_plus ?_ ?_ _) | (with_reducible refine Below.alloc ?_ ?_ _) | (with_reducible refine Below.drew ?_) | (with_reducible refine below_drewN ?_ _) | (with_reducible refine Below.setCell ?_ ?_ _) | (first | omega | (simp only [World.size_alloc, size_plus, World.size_drew, World.size_setCell] <;> omega) | (simp <;> omega)) | omega | (simp; omega))))))
              | (go_at_call 45; (with_reducible refine Calls.quiet_plus (HSK.out _ _ ?_)); exact HRD.out.keep (below_keeps (by (repeat' (first | (with_reducible exact Below.refl _ _) | (with_reducible assumption) | (with_reducible refine below_plus ?_ ?_ _) | (with_reducible refine Below.alloc ?_ ?_ _) | (with_reducible refine Below.drew ?_) | (with_reducible refine below_drewN ?_ _) | (with_reducible refine Below.setCell ?_ ?_ _) | (first | omega | (simp only [World.size_alloc, size_plus, World.size_drew, World.size_setCell] <;> omega) | (simp <;> omega)) | omega | (simp; omega)))))))))); refine wpQuiet_nil ?_; intro _)
            generalize hW2 : World.plus _ _ = W2
            have hb2 : Below wr.heap.size wr W2 := by rw [← hW2]; exact below_plus (Below.refl _ _) (Nat.le_refl _) _
            have HB2 : Hid (Below V.heap.size V W2) := HBL.out.trans (hb2.mono HBL.out.size)
            have HI2 := Lib.hid (HI.out.below hb2)
            have c2 := HCELL.out W2 HB2.out
            have hsz2 := HB2.out.size
            clear hW2 hb2 c0 r0 l0
            go_wp2_with fail
            exact ⟨⟨k + 1, by omega, by go_num, by rw [HD.out], by rw [HG.out]; exact HI2.out, HB2.out⟩, by simp [intOf]; omega⟩
    · obtain rfl : k = 24 := by omega
      have hlen : (goneM m 0 24).length ≤ 1073741824 := by have := gone_len m 0 24; omega
      have hbox : wr.heap[w.heap.size]? = some (.cells (cellsR t.1 t.2 (.slice A t.2.n cap)) 28 (0, 0)) := (hbl.block _ (lt_of_heap HBX.out)).trans HBX.out
      have hbw : Below w.heap.size w wr := HW.out.trans (hbl.mono HW.out.size)
      obtain ⟨A1, cap1, rfl, -, -⟩ := hI.slice
      have HI := Lib.hid (hI.rdI hlen)
      have HBW := Lib.hid hbw
      have HBOX := Lib.hid hbox
      have r0 := row12 hbox
      have l0 := lt_of_heap hbox
      clear hI hbl hbw hbox HFR HSH
      generalize goneM m 0 24 = L at *
      generalize dirtyM m 24 = dd at *
      have hdd : (dd == dd) = true := by simp
      have HEQ : Hid (∀ va vb W, RdI W L va → RdI W L vb → Calls Try.prog 49 #[va, vb] W fun e w' => e = .returned (.bool true) ∧ Below W.heap.size W w') := fun va vb W h1 h2 => by
        have := q_Equal L L va vb W h1 h2
        rwa [decide_eq_true rfl] at this
      go_wp2_with (first
        | (go_at_call 50; (with_reducible refine (HFS.out _ _ ?_).mono ?_); exact HR.out.keep (below_keeps HBW.out); rintro e W1 ⟨v1, rfl, ho, hb⟩; (obtain ⟨A2, cap2, rfl, -, -⟩ := ho.slice); have HI1 := Lib.hid (ho.rdI hlen); have HI2 := Lib.hid (HI.out.below hb); (have HBW1 : Hid (Below w.heap.size w W1) := HBW.out.trans (hb.mono HBW.out.size)); have hbox1 := (hb.block _ (lt_of_heap HBOX.out)).trans HBOX.out; have r1 := row12 hbox1; have l1 := lt_of_heap hbox1; clear ho hb hbox1 r0 l0)
        | (go_at_call 49; (with_reducible refine (HEQ.out _ _ _ HI1.out HI2.out).mono ?_); rintro e w' ⟨rfl, hb⟩; (first | (obtain ⟨X, rfl⟩ := plus_again hb) | (obtain ⟨X, rfl⟩ := plus_of_below hb)); clear hb)
        | (go_at_call 47; (with_reducible refine (HND.out _ _ ?_).mono ?_); exact HR.out.keep (below_keeps (below_plus HBW1.out HBW1.out.size _)); rintro e w' ⟨rfl, hb⟩; (first | (obtain ⟨X, rfl⟩ := plus_again hb) | (obtain ⟨X, rfl⟩ := plus_of_below hb)); clear hb)
        | (go_at_call 41; (with_reducible refine (HCK.out _ _ ?_).mono ?_); exact HR.out.keep (below_keeps (below_plus HBW1.out HBW1.out.size _)); rintro e w' ⟨rfl, hb⟩; (first | (obtain ⟨X, rfl⟩ := plus_again hb) | (obtain ⟨X, rfl⟩ := plus_of_below hb)); clear hb))
      go_ret
      exact ⟨rfl, below_plus HBW1.out HBW1.out.size _⟩
end Go.Proofs.Ytcicfijpfhbcaaa
