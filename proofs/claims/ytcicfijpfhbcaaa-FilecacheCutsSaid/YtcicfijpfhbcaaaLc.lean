/-
  The law FilecacheCuts.
-/
import Derived.Test.YtcicfijpfhbcaaaQs
import Derived.Test.YtcicfijpfhbcaaaOn
namespace Go.Proofs.Ytcicfijpfhbcaaa
set_option linter.unusedSimpArgs false
set_option linter.unusedVariables false
set_option linter.unusedSectionVars false
open Go.RowKit

set_option maxRecDepth 100000 in
set_option maxHeartbeats 1000000 in
theorem m_Cuts (A0 : Option Addr) (cap0 n : Nat) (a : Nat → OpW) (size : Int) (w : World) (h : RdC w (dOw a n) (.slice A0 n cap0)) :
    Calls Try.prog 16 #[.slice A0 n cap0, .int .i64 size] w fun e w' => e = .returned (.bool true) ∧ Below w.heap.size w w' := by
  have hcap := ow_cap h
  have hmax : (n : Int) ≤ 9223372036854775807 := by have := hcap.1; have := hcap.2; unfold maxLen at this; omega
  by_cases h40 : (60 : Int) < (n : Int)
  · go_enter Try.func16, Try.ntmps16
    go_wp2_with (first | (go_at_call 40; refine (m_awake _).mono ?_; rintro e w' ⟨rfl, hb⟩; (first | (obtain ⟨X, rfl⟩ := plus_again hb) | (obtain ⟨X, rfl⟩ := plus_of_below hb)); clear hb))
    go_ret
    exact ⟨rfl, by (repeat' (first | (with_reducible exact Below.refl _ _) | (with_reducible assumption) | (with_reducible refine below_plus ?_ ?_ _) | (with_reducible refine Below.alloc ?_ ?_ _) | (with_reducible refine Below.drew ?_) | (with_reducible refine below_drewN ?_ _) | (with_reducible refine Below.setCell ?_ ?_ _) | (first | omega | (simp only [World.size_alloc, size_plus, World.size_drew, World.size_setCell] <;> omega) | (simp <;> omega)) | omega | (simp; omega)))⟩
  by_cases hs0 : size < 0
  · go_enter Try.func16, Try.ntmps16
    go_wp2_with (first | (go_at_call 40; refine (m_awake _).mono ?_; rintro e w' ⟨rfl, hb⟩; (first | (obtain ⟨X, rfl⟩ := plus_again hb) | (obtain ⟨X, rfl⟩ := plus_of_below hb)); clear hb))
    go_ret
    exact ⟨rfl, by (repeat' (first | (with_reducible exact Below.refl _ _) | (with_reducible assumption) | (with_reducible refine below_plus ?_ ?_ _) | (with_reducible refine Below.alloc ?_ ?_ _) | (with_reducible refine Below.drew ?_) | (with_reducible refine below_drewN ?_ _) | (with_reducible refine Below.setCell ?_ ?_ _) | (first | omega | (simp only [World.size_alloc, size_plus, World.size_drew, World.size_setCell] <;> omega) | (simp <;> omega)) | omega | (simp; omega)))⟩
  by_cases hs1 : 24 < size
  · go_enter Try.func16, Try.ntmps16
    go_wp2_with (first | (go_at_call 40; refine (m_awake _).mono ?_; rintro e w' ⟨rfl, hb⟩; (first | (obtain ⟨X, rfl⟩ := plus_again hb) | (obtain ⟨X, rfl⟩ := plus_of_below hb)); clear hb))
    go_ret
    exact ⟨rfl, by (repeat' (first | (with_reducible exact Below.refl _ _) | (with_reducible assumption) | (with_reducible refine below_plus ?_ ?_ _) | (with_reducible refine Below.alloc ?_ ?_ _) | (with_reducible refine Below.drew ?_) | (with_reducible refine below_drewN ?_ _) | (with_reducible refine Below.setCell ?_ ?_ _) | (first | omega | (simp only [World.size_alloc, size_plus, World.size_drew, World.size_setCell] <;> omega) | (simp <;> omega)) | omega | (simp; omega)))⟩
  obtain ⟨s, rfl⟩ : ∃ s : Nat, size = s := ⟨size.toNat, by omega⟩
  have hs24 : s ≤ 24 := by omega
  have hs24I : (s : Int) ≤ 24 := by omega
  clear hs0 hs1
  have h40' : (n : Int) ≤ 60 := by omega
  have H := Lib.hid h
  clear h h40
  go_enter Try.func16, Try.ntmps16
  go_wp2_with fail
  generalize hV : World.alloc (World.alloc w _) _ = V
  have hw : Below w.heap.size w V := by rw [← hV]; (repeat' (first | (with_reducible exact Below.refl _ _) | (with_reducible assumption) | (with_reducible refine below_plus ?_ ?_ _) | (with_reducible refine Below.alloc ?_ ?_ _) | (with_reducible refine Below.drew ?_) | (with_reducible refine below_drewN ?_ _) | (with_reducible refine Below.setCell ?_ ?_ _) | (first | omega | (simp only [World.size_alloc, size_plus, World.size_drew, World.size_setCell] <;> omega) | (simp <;> omega)) | omega | (simp; omega)))
  have hbx : V.heap[w.heap.size]? = some (.cells (cellsR 0 zeroN (.slice none 0 0)) 28 (0, 0)) := by rw [← hV]; exact ((below_alloc _ _).block _ (by (first | omega | (simp only [World.size_alloc, size_plus, World.size_drew, World.size_setCell] <;> omega) | (simp <;> omega)))).trans (heap_alloc_here _ _ _ rfl)
  have hmp : MapAt V (w.heap.size + 1) (fillM 0) := ⟨Try.zeroCells60, by rw [← hV]; exact heap_alloc_here _ _ _ (by (first | omega | (simp only [World.size_alloc, size_plus, World.size_drew, World.size_setCell] <;> omega) | (simp <;> omega))), zero_map⟩
  have HW := Lib.hid hw
  have HBX := Lib.hid hbx
  have HMP := Lib.hid hmp
  clear hV hw hbx hmp
  go_loopw [29] (fun iv wr => ∃ k : Nat, k ≤ 24 ∧ iv = .int .i64 k ∧ MapAt wr (w.heap.size + 1) (fillM k) ∧ wr.heap[w.heap.size]? = some (.cells (cellsR 0 zeroN (.slice none 0 0)) 28 (0, 0)) ∧ Below w.heap.size w wr) (fun iv _ => 24 - (intOf iv).toNat)
  case atStart => exact ⟨0, by omega, rfl, HMP.out, HBX.out, HW.out⟩
  case round =>
    obtain ⟨k, hk, rfl, hm, hb, hbl⟩ := hrel
    clear HW HBX HMP
    by_cases hlt : k < 24
    · have hkI : (k : Int) < 24 := by omega
      have HM := Lib.hid hm
      have HB := Lib.hid hb
      have HBL := Lib.hid hbl
      clear hm hb hbl
      go_wp2_with ((with_reducible refine wpList_storePg (.tmp 34) (.tmp 33) ?_ ?_ (w.heap.size + 1) k ?_ pg0 ?_ HM.out hlt ?_); (with_reducible rfl); rfl; rfl; rfl; (intro W4 hm4 ht4); have HM4 := Lib.hid hm4; have HT4 := Lib.hid ht4; clear hm4 ht4)
      exact ⟨⟨k + 1, by omega, by go_num, by rw [fillM_succ]; exact HM4.out, (HT4.out.far _ (lt_of_heap HB.out) (by omega)).trans HB.out, HBL.out.trans (HT4.out.below (by omega) HBL.out.size)⟩, by simp [intOf]; omega⟩
    · obtain rfl : k = 24 := by omega
      have hst : MpS w w.heap.size (w.heap.size + 1) (fun _ => pg0) (0, zeroN) none 0 (fun _ => False) wr := MpS.start (fill_end hm) hb hbl (by omega) (by omega) (by omega)
      have HST := Lib.hid hst
      clear hm hb hbl hst
      go_wp2_with fail
      go_loopw [38] (fun iv wr => ∃ (k : Nat) (t : Nat × RN) (A : Option Addr) (cap : Nat) (S : Nat → Prop) (m : Nat → Pg), k ≤ n ∧ iv = .int .i64 k ∧ MpS w w.heap.size (w.heap.size + 1) m t A cap S wr) (fun iv _ => n - (intOf iv).toNat)
      case atStart => exact ⟨0, _, _, _, _, _, by omega, rfl, HST.out⟩
      case round =>
        obtain ⟨k, t, A, cap, S, m, hk, rfl, hst⟩ := hrel
        clear HST
        by_cases hlt : k < n
        · have hltI : (k : Int) < (n : Int) := by omega
          obtain ⟨go, b, rfl, hc⟩ := at_ow H.out hlt
          have hck : ∀ j, j < 3 → wr.cell? ⟨go, b + (k * 3 + j), none⟩ = some (owCell (a k) j) := fun j hj => below_keeps hst.below _ _ (hc j hj)
          rcases hak : a k with ⟨kd, ix, f⟩
          rw [hak] at hck
          have c0 : wr.cell? ⟨go, b + k * 3, none⟩ = some (.int .i64 kd) := hck 0 (by omega)
          have c1 : wr.cell? ⟨go, b + k * 3 + 1, none⟩ = some (.int .i64 ix) := hck 1 (by omega)
          have c2 : wr.cell? ⟨go, b + k * 3 + 2, none⟩ = some (.int .i64 f) := hck 2 (by omega)
          have hgo := World.block_lt_of_cell? wr _ c0
          have r0 := row12 hst.bx
          have l0 := lt_of_heap hst.bx
          have HPL : Hid (∀ cs W, cs = cellsR t.1 t.2 (.slice A t.2.n cap) → Below wr.heap.size wr W → Calls Try.prog 64 #[.agg cs, .pointer (some ⟨w.heap.size + 1, 0, none⟩), .agg #[.int .i64 kd, .int .i64 ix, .int .i64 f]] W (PlayPost (w.heap.size + 1) S W)) := fun cs W e hb => by
            subst e
            have h1 := hst.stay hb
            exact m_play t A cap S m (w.heap.size + 1) (kd, ix, f) W h1.okm h1.cp h1.mp h1.own fun e => (h1.S_ _ e).2 rfl
          have HS := Lib.hid hst
          clear hc hck hak hst
          go_wp2_with (first
            | (go_at_call 64; (with_reducible refine (HPL.out _ _ ?_ ?_).mono ?_); exact rfl; (repeat' (first | (with_reducible exact Below.refl _ _) | (with_reducible assumption) | (with_reducible refine below_plus ?_ ?_ _) | (with_reducible refine Below.alloc ?_ ?_ _) | (with_reducible refine Below.drew ?_) | (with_reducible refine below_drewN ?_ _) | (with_reducible refine Below.setCell ?_ ?_ _) | (first | omega | (simp only [World.size_alloc, size_plus, World.size_drew, World.size_setCell] <;> omega) | (simp <;> omega)) | omega | (simp; omega))); rintro e W1 ⟨t1, A1, cap1, S1, m1, rfl, hm1, hc1, hM1, hO1, hS1, hT1⟩; have HP1 := Lib.hid (fun (X : World) (hb2 : Below W1.heap.size W1 X) => HS.out.play (by (repeat' (first | (with_reducible exact Below.refl _ _) | (with_reducible assumption) | (with_reducible refine below_plus ?_ ?_ _) | (with_reducible refine Below.alloc ?_ ?_ _) | (with_reducible refine Below.drew ?_) | (with_reducible refine below_drewN ?_ _) | (with_reducible refine Below.setCell ?_ ?_ _) | (first | omega | (simp only [World.size_alloc, size_plus, World.size_drew, World.size_setCell] <;> omega) | (simp <;> omega)) | omega | (simp; omega)))) hm1 hc1 hM1 hO1 hS1 hT1 hb2); clear hm1 hc1 hM1 hO1 hS1 hT1 c0 c1 c2 r0 l0)
            | ((with_reducible refine wpList_storeR_new (.tmp 10) (.tmp 46) ?_ ?_ W1.heap.size ?_ t1.1 t1.2 A1 t1.2.n cap1 ?_ rfl rfl ?_); (with_reducible rfl); rfl; rfl; rfl; generalize hV2 : World.alloc W1 _ = V2; (have hb2 : Below W1.heap.size W1 V2 := by rw [← hV2]; exact below_alloc _ _); (have hg2 : V2.heap[W1.heap.size]? = some (.cells (cellsR t1.1 t1.2 (.slice A1 t1.2.n cap1)) 28 (0, 0)) := by rw [← hV2]; exact heap_alloc_new _ _); have HP2 := Lib.hid (HP1.out V2 hb2); have d2 := row12 hg2; have l2 := lt_of_heap hg2; clear hV2 hb2 hg2)
            | ((with_reducible refine wpList_storeR (.tmp 5) (.tmp 50) ?_ ?_ w.heap.size ?_ t1.1 t1.2 A1 t1.2.n cap1 ?_ _ 28 HP2.out.2 rfl ?_); (with_reducible rfl); rfl; rfl; rfl))
          constructor
          · (repeat apply Exists.intro)
            exact ⟨⟨k + 1, t1, A1, cap1, S1, m1, by omega, by go_num, HP2.out.1⟩, rfl⟩
          · simp [intOf]; omega
        · obtain rfl : k = n := by omega
          obtain ⟨u, hu, hcu⟩ := cm_cut hst.okm hst.cp hs24
          have hv := cm_vOk hst.okm hst.cp
          have HTR : Hid (∀ cs W, RdVals W cs 12 (encR t.1 t.2) → Calls Try.prog 52 #[.agg cs, .int .i64 s] W (TruncPost (((u.1 : Int), u.2), goneM m s 24, 0) W)) := fun cs W hr => by
            have := c_Truncate cs t.1 t.2 s W hr hv
            rwa [hu] at this
          have HCU := Lib.hid hcu
          have HOK := Lib.hid (okM_cut hst.okm s 24)
          have hlen : (goneM m s 24).length ≤ 1073741824 := by have := gone_len m s 24; omega
          have r0 := row12 hst.bx
          have l0 := lt_of_heap hst.bx
          have HS := Lib.hid hst
          clear hu hcu hv hst
          go_wp2_with (first
            | (go_at_call 52; (with_reducible refine (HTR.out _ _ ?_).mono ?_); exact HS.out.rd; rintro e W1 ⟨s1, v1, rfl, hO1, hL1, hb1⟩; (obtain ⟨A1, cap1, rfl, -⟩ := hO1.slice); (obtain ⟨A2, cap2, rfl, -, -⟩ := hL1.slice); have HS1 := Lib.hid (HS.out.stay hb1); have HO1 := Lib.hid hO1; have HL1 := Lib.hid hL1; have HZ1 := Lib.hid hb1.size; clear hO1 hL1 hb1 r0 l0)
            | ((with_reducible refine wpList_storeR_new (.tmp 12) (.tmp 56) ?_ ?_ W1.heap.size ?_ u.1 u.2 A1 u.2.n cap1 ?_ rfl rfl ?_); (with_reducible rfl); rfl; rfl; rfl))
          generalize hV2 : World.alloc W1 _ = V2
          have hb2 : Below W1.heap.size W1 V2 := by rw [← hV2]; exact below_alloc _ _
          have hg2 : V2.heap[W1.heap.size]? = some (.cells (cellsR u.1 u.2 (.slice A1 u.2.n cap1)) 28 (0, 0)) := by rw [← hV2]; exact heap_alloc_new _ _
          have HS2 := Lib.hid (HS1.out.stay hb2)
          have HO2 := Lib.hid (hO_keep HO1.out hb2)
          have HL2 := Lib.hid (HL1.out.below hb2)
          have HG2 := Lib.hid hg2
          have hgm : w.heap.size + 1 < wr.heap.size := HS.out.mp.lt
          clear hV2 hb2 hg2 HS HS1 HO1 HL1 HTR
          generalize wr.heap.size = zr at *
          go_loopw [15, 16] (fun gv iv wr => ∃ k : Nat, s ≤ k ∧ k ≤ 24 ∧ iv = .int .i64 k ∧ OwnI wr V2.heap.size (goneM m s k) gv ∧ MapAt wr (w.heap.size + 1) (cutM m s k) ∧ MTn (w.heap.size + 1) V2 wr) (fun _ iv _ => 24 - (intOf iv).toNat)
          case atStart => exact ⟨s, Nat.le_refl _, hs24, rfl, by rw [gone_start]; exact OwnI.nil _ _, by rw [cutM_start]; exact HS2.out.mp, MTn.refl _ _⟩
          case round =>
            obtain ⟨k, hsk, hk, rfl, hI, hM, hT⟩ := hrel
            obtain ⟨A3, cap3, rfl, -, -⟩ := hI.slice
            by_cases hlt : k < 24
            · have hkI : (k : Int) < 24 := by omega
              have q0 : wr.cell? ⟨w.heap.size + 1, k * 3, none⟩ = some (.int .i64 (m k).1) := by have := hM.cell (j := 0) hlt (by omega); rw [cutM_at] at this; exact this
              have hgl := hM.lt
              have hll : (goneM m s k).length ≤ 1073741824 := by have := gone_len m s k; omega
              have HGS : Hid (goneM m s (k + 1) = if s ≤ k ∧ 0 ≤ (m k).1 then goneM m s k ++ [(m k).1] else goneM m s k) := gone_succ m s k
              have HI := Lib.hid hI
              have HM := Lib.hid hM
              have HT := Lib.hid hT
              have hV2 := hT.size
              have hgV := HS2.out.mp.lt
              clear hI hM hT
              generalize goneM m s k = lf at *
              generalize (m k).1 = fr at *
              by_cases h0 : 0 ≤ fr
              · have HGS2 : Hid (goneM m s (k + 1) = lf ++ [fr]) := HGS.out.trans (if_pos ⟨hsk, h0⟩)
                clear HGS
                go_wp2_with (first
                  | ((with_reducible refine wpList_appendI ?_ (.tmp 69) (.tmp 74) ?_ V2.heap.size lf _ ?_ HI.out fr _ ?_ hV2 hll ?_); rfl; (with_reducible rfl); rfl; rfl; (intro v3 W3 ha); (have hb3 : Below V2.heap.size wr W3 := ((Below.refl V2.heap.size wr).alloc hV2 _).trans ha.below); have HM3 := Lib.hid (HM.out.keep (hb3.block _ hgV)); have HT3 := Lib.hid (HT.out.go' hb3); have HI3 := Lib.hid ha.own; clear ha hb3 q0)
                  | ((with_reducible refine wpList_storePg (.tmp 78) (.tmp 77) ?_ ?_ (w.heap.size + 1) k ?_ pg0 ?_ HM3.out hlt ?_); (with_reducible rfl); rfl; rfl; rfl; (intro W4 hm4 ht4); have HM4 := Lib.hid hm4; have HT4 := Lib.hid ht4; clear hm4 ht4))
                exact ⟨⟨k + 1, by omega, by omega, by go_num, by rw [HGS2.out]; exact HI3.out.keep fun q hq hl => HT4.out.far q hl (by have := HI3.out.base_ q hq; omega), by rw [cutM_succ m hsk]; exact HM4.out, HT3.out.trans HT4.out⟩, by simp [intOf]; omega⟩
              · have HGS2 : Hid (goneM m s (k + 1) = lf) := HGS.out.trans (if_neg fun e => h0 e.2)
                clear HGS
                go_wp2_with (
                  ((with_reducible refine wpList_storePg (.tmp 78) (.tmp 77) ?_ ?_ (w.heap.size + 1) k ?_ pg0 ?_ HM.out hlt ?_); (with_reducible rfl); rfl; rfl; rfl; (intro W4 hm4 ht4); have HM4 := Lib.hid hm4; have HT4 := Lib.hid ht4; clear hm4 ht4))
                exact ⟨⟨k + 1, by omega, by omega, by go_num, by rw [HGS2.out]; exact HI.out.keep fun q hq hl => HT4.out.far q hl (by have := HI.out.base_ q hq; omega), by rw [cutM_succ m hsk]; exact HM4.out, HT.out.trans HT4.out⟩, by simp [intOf]; omega⟩
            · obtain rfl : k = 24 := by omega
              obtain ⟨row, hg, hrow⟩ := hM
              have hgV := HS2.out.mp.lt
              have hgW := hgm
              have hO : OwnK wr u.2 (.slice A1 u.2.n cap1) (fun b => zr ≤ b) := HO2.out.frame _ fun b hb hl => hT.far b hl (by omega)
              have hL : OwnI wr zr (goneM m s 24) (.slice A2 (goneM m s 24).length cap2) := HL2.out.keep fun q hq hl => hT.far q hl (by have := HL2.out.base_ q hq; omega)
              have hx : wr.heap[W1.heap.size]? = some (.cells (cellsR u.1 u.2 (.slice A1 u.2.n cap1)) 28 (0, 0)) := (hT.far _ (lt_of_heap HG2.out) (by have := HZ1.out; omega)).trans HG2.out
              have hag : ∀ cs W, cs = cellsR u.1 u.2 (.slice A1 u.2.n cap1) → Below wr.heap.size wr W → Calls Try.prog 65 #[.agg cs, .agg row] W fun e w' => e = .returned (.bool true) ∧ Below W.heap.size W w' := fun cs W e hb => by
                subst e
                exact m_agrees u A1 cap1 (cutM m s 24) row W HOK.out HCU.out ((rdR_shut hO.rd).keep (below_keeps hb)) hrow
              have HAG := Lib.hid hag
              have HI1 := Lib.hid (hL.rdI hlen)
              have HI2 := Lib.hid (hI.rdI hlen)
              have HG := Lib.hid hg
              have HRW := Lib.hid hrow.1
              have hbw : Below w.heap.size w wr := HS2.out.below.trans (hT.below (by omega) HS2.out.below.size)
              have HBW := Lib.hid hbw
              have r0 := row12 hx
              have l0 := lt_of_heap hx
              clear hg hrow hO hL hx hag hI hT hbw hgV hgW hgm
              have HEQ : Hid (∀ va vb W, RdI W (goneM m s 24) va → RdI W (goneM m s 24) vb → Calls Try.prog 49 #[va, vb] W fun e w' => e = .returned (.bool true) ∧ Below W.heap.size W w') := fun va vb W h1 h2 => by
                have := q_Equal _ _ va vb W h1 h2
                rwa [decide_eq_true rfl] at this
              generalize goneM m s 24 = L at *
              go_wp2_with (first
                | (go_at_call 49; (with_reducible refine (HEQ.out _ _ _ HI1.out HI2.out).mono ?_); rintro e w' ⟨rfl, hb⟩; (first | (obtain ⟨X, rfl⟩ := plus_again hb) | (obtain ⟨X, rfl⟩ := plus_of_below hb)); clear hb)
                | ((with_reducible refine wpList_loadM (.tmp 6) ?_ ?_ (w.heap.size + 1) ?_ row HRW.out _ ((heap_plus _ _ _ (lt_of_heap HG.out)).trans HG.out) ?_); (with_reducible rfl); rfl; rfl)
                | (go_at_call 65; (with_reducible refine (HAG.out _ _ ?_ ?_).mono ?_); exact rfl; (repeat' (first | (with_reducible exact Below.refl _ _) | (with_reducible assumption) | (with_reducible refine below_plus ?_ ?_ _) | (with_reducible refine Below.alloc ?_ ?_ _) | (with_reducible refine Below.drew ?_) | (with_reducible refine below_drewN ?_ _) | (with_reducible refine Below.setCell ?_ ?_ _) | (first | omega | (simp only [World.size_alloc, size_plus, World.size_drew, World.size_setCell] <;> omega) | (simp <;> omega)) | omega | (simp; omega))); rintro e w' ⟨rfl, hb⟩; (first | (obtain ⟨X, rfl⟩ := plus_again hb) | (obtain ⟨X, rfl⟩ := plus_of_below hb)); clear hb)
                | (go_at_call 40; refine (m_awake _).mono ?_; rintro e w' ⟨rfl, hb⟩; (first | (obtain ⟨X, rfl⟩ := plus_again hb) | (obtain ⟨X, rfl⟩ := plus_of_below hb)); clear hb))
              go_ret
              exact ⟨rfl, below_plus HBW.out HBW.out.size _⟩
end Go.Proofs.Ytcicfijpfhbcaaa
