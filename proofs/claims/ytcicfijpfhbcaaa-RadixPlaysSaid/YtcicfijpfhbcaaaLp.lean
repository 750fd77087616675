/-
  The law RadixPlays.
-/
import Derived.Test.YtcicfijpfhbcaaaPz
import Derived.Test.YtcicfijpfhbcaaaOq
import Derived.Deep.LoopGhost
import Derived.Deep.DeepCutAuto
import Derived.BigRegion
import Derived.Deep.CutBlock
namespace Go.Proofs.Ytcicfijpfhbcaaa
set_option linter.unusedSimpArgs false
set_option linter.unusedVariables false
set_option linter.unusedSectionVars false
open Go.RowKit

theorem infoI : (Try.prog.info? 3).map (fun i => (i.size, i.bytes, i.zero.map fun z => z.cells.size)) = some (1, 8, some 1) := by kernel_rfl
theorem infoB : (Try.prog.info? 49).map (fun i => (i.size, i.bytes, i.zero.map fun z => z.cells.size)) = some (2, 2, some 2) := by kernel_rfl
theorem info_parts {τ : TypeId} {a b c : Nat} (h : (Try.prog.info? τ).map (fun i => (i.size, i.bytes, i.zero.map fun z => z.cells.size)) = some (a, b, some c)) : ∃ i z, Try.prog.info? τ = some i ∧ i.zero = some z ∧ i.size = a ∧ i.bytes = b ∧ z.cells.size = c := by
  cases hi : Try.prog.info? τ with
  | none => rw [hi] at h; simp at h
  | some i =>
    rw [hi] at h
    simp only [Option.map_some, Option.some.injEq, Prod.mk.injEq] at h
    obtain ⟨h1, h2, h3⟩ := h
    cases hz : i.zero with
    | none => rw [hz] at h3; simp at h3
    | some z => rw [hz] at h3; exact ⟨i, z, rfl, hz, h1, h2, by simpa using h3⟩
section
variable {ops : Array Oper} {rest : List Oper} {o : Oper} {a : Act} {w : World} {Q : Exit → Act → World → Prop}
theorem wpList_appI (hgd : o.guard = none) (s x : Operand) (ho : o.op = .call { callee := .builtin .append, args := #[s, x], argTypes := #[43, 43] })
    (base : Nat) (l : List PE) (v : Value) (hs : a.eval s = v) (hown : OwnG 3 1 flI w base l v) (e : PE) (t : TypeId) (z : Int) (hz : z = e.1) (hx : a.eval x = .slice (some ⟨w.heap.size, 0, none⟩) 1 1) (hb : base ≤ w.heap.size) (hl : l.length ≤ 1000)
    (h : ∀ v' w', AppG 3 1 flI (w.alloc (.cells #[.int .i64 z] t)) w' base (l ++ [e]) v v' → wpList Try.prog ops Q rest (a.put o.dst v') w') : wpList Try.prog ops Q (o :: rest) a (w.alloc (.cells #[.int .i64 z] t)) := by
  obtain ⟨i0, z0, hi0, hz0, hz1, hz2, hz3⟩ := info_parts infoI
  subst hz
  exact wpList_appendG flI_len (by omega) i0 z0 8 Try.underlying43 hi0 hz0 hz1 hz2 hz3 (by omega) hgd s x ho base l v hs hown e t #[.int .i64 e.1] rfl (by simp [flI, Value.oneCell']) hx hb hl h
theorem wpList_appV (hgd : o.guard = none) (s x : Operand) (ho : o.op = .call { callee := .builtin .append, args := #[s, x], argTypes := #[43, 43] })
    (base : Nat) (l : List PE) (v : Value) (hs : a.eval s = v) (hown : OwnG 3 1 flV w base l v) (e : PE) (t : TypeId) (z : Int) (hz : z = e.2.1) (hx : a.eval x = .slice (some ⟨w.heap.size, 0, none⟩) 1 1) (hb : base ≤ w.heap.size) (hl : l.length ≤ 1000)
    (h : ∀ v' w', AppG 3 1 flV (w.alloc (.cells #[.int .i64 z] t)) w' base (l ++ [e]) v v' → wpList Try.prog ops Q rest (a.put o.dst v') w') : wpList Try.prog ops Q (o :: rest) a (w.alloc (.cells #[.int .i64 z] t)) := by
  obtain ⟨i0, z0, hi0, hz0, hz1, hz2, hz3⟩ := info_parts infoI
  subst hz
  exact wpList_appendG flV_len (by omega) i0 z0 8 Try.underlying43 hi0 hz0 hz1 hz2 hz3 (by omega) hgd s x ho base l v hs hown e t #[.int .i64 e.2.1] rfl (by simp [flV, Value.oneCell']) hx hb hl h
theorem wpList_appT (hgd : o.guard = none) (s x : Operand) (ho : o.op = .call { callee := .builtin .append, args := #[s, x], argTypes := #[46, 46] })
    (base : Nat) (l : List PE) (v : Value) (hs : a.eval s = v) (hown : OwnG 49 2 flT w base l v) (e : PE) (t : TypeId) (y z : Bool) (hy : y = e.2.2.1) (hz : z = e.2.2.2) (hx : a.eval x = .slice (some ⟨w.heap.size, 0, none⟩) 1 1) (hb : base ≤ w.heap.size) (hl : l.length ≤ 1000)
    (h : ∀ v' w', AppG 49 2 flT (w.alloc (.cells #[.bool y, .bool z] t)) w' base (l ++ [e]) v v' → wpList Try.prog ops Q rest (a.put o.dst v') w') : wpList Try.prog ops Q (o :: rest) a (w.alloc (.cells #[.bool y, .bool z] t)) := by
  obtain ⟨i0, z0, hi0, hz0, hz1, hz2, hz3⟩ := info_parts infoB
  subst hz
  subst hy
  exact wpList_appendG flT_len (by omega) i0 z0 2 Try.underlying46 hi0 hz0 hz1 hz2 hz3 (by omega) hgd s x ho base l v hs hown e t #[.bool e.2.2.1, .bool e.2.2.2] rfl (by simp [flT, Value.oneCell']) hx hb hl h
end
theorem row12 {w : World} {g : Nat} {ht : Int} {y : RN} {s : Value} {t : TypeId} {fr : Nat × Nat} (h : w.heap[g]? = some (.cells (cellsR ht y s) t fr)) :
    (w.cell? ⟨g, 0, none⟩ = some (.int .i64 ht) ∧ w.cell? ⟨g, 1, none⟩ = some (.int .i64 (y.v 0)) ∧ w.cell? ⟨g, 2, none⟩ = some (.int .i64 (y.v 1)) ∧ w.cell? ⟨g, 3, none⟩ = some (.int .i64 (y.v 2)) ∧ w.cell? ⟨g, 4, none⟩ = some (.int .i64 (y.v 3)) ∧ w.cell? ⟨g, 5, none⟩ = some (.int .i64 (y.v 4))) ∧
    w.cell? ⟨g, 6, none⟩ = some (.int .i64 (y.v 5)) ∧ w.cell? ⟨g, 7, none⟩ = some (.int .i64 (y.v 6)) ∧ w.cell? ⟨g, 8, none⟩ = some (.int .i64 (y.v 7)) ∧ w.cell? ⟨g, 9, none⟩ = some (.int .i64 y.t0) ∧ w.cell? ⟨g, 10, none⟩ = some (.int .i64 y.t1) ∧ w.cell? ⟨g, 11, none⟩ = some s := by
  have hc : ∀ j, w.cell? ⟨g, j, none⟩ = (cellsR ht y s)[j]? := fun j => cell_of_row _ _ _ _ _ _ h
  exact ⟨⟨hc 0, hc 1, hc 2, hc 3, hc 4, hc 5⟩, hc 6, hc 7, hc 8, hc 9, hc 10, hc 11⟩
theorem sizeT : (Try.prog.info? 49).map (·.size) = some 2 := by kernel_rfl
theorem wpList_storeT {ops : Array Oper} {rest : List Oper} {o : Oper} {a : Act} {w : World} {Q : Exit → Act → World → Prop} (x z : Operand) (ho : o.op = .store 49 x z) (hw : Region.wanted o (yielded ops a.tmps) = true)
    (g b : Nat) (hx : a.eval x = .pointer (some ⟨g, b, none⟩)) (y1 y2 : Bool) (hz : a.eval z = .agg #[.bool y1, .bool y2]) (cur : Array Value) (t : TypeId) (hg : w.heap[g]? = some (.cells cur t (0, 0))) (hb : b + 2 ≤ cur.size)
    (h : wpList Try.prog ops Q rest (a.put o.dst undef) ((w.setCell ⟨g, b, none⟩ (.bool y1)).setCell ⟨g, b + 1, none⟩ (.bool y2))) : wpList Try.prog ops Q (o :: rest) a w := by
  rw [← setRow_two hg (.bool y1) (.bool y2) hb] at h
  refine wpList_step fun K hK => ?_
  rw [if_pos hw]
  have hs := run_storeCells_at (P := Try.prog) g b t [.bool y1, .bool y2] 0 cur w hg (by simpa using hb) (fun v hv => by simp at hv; rcases hv with rfl | rfl <;> rfl)
  have hv : (storeVar 49 ⟨g, b, none⟩ (.agg #[.bool y1, .bool y2])).run Try.prog w = .ok () (w.setRow g (putAt cur b #[.bool y1, .bool y2])) := by
    cases hq : Try.prog.info? 49 with
    | none => have := sizeT; simp [hq] at this
    | some i =>
      have hs2 : 2 = i.size := by have := sizeT; simp [hq] at this; exact this.symm
      simp only [Nat.add_zero] at hs
      simp [storeVar, Sem.run_bind, sizeOf, typeInfo, hq, Value.cells, ← hs2, hs, putAt]
  unfold Oper.wp execOp
  simp only [ho, hx, hz, Instr.storeAt, Instr.sureAddr, Sem.run_bind, Sem.run_pure, Result.andThen_ok, hv]
  exact hK _ _ h
theorem wrap_u16 {i : Nat} (h : i < 65536) : wrap64 (i : Int) = (i : Int) := by unfold wrap64; omega
theorem Stage.start {w W : World} (h : Below w.heap.size w W) :
    Stage w W.heap.size (0, zeroN) none 0 (fun _ => False) [] [] [] (.slice none 0 0) (.slice none 0 0) (.slice none 0 0) (fun b => if b = W.heap.size then 5 else 0) (W.alloc (.cells (cellsR 0 zeroN (.slice none 0 0)) 28)) := by
  refine ⟨⟨heap_alloc_new _ _, OwnK.none_ rfl, id⟩, h.alloc h.size _, OwnG.nil _ _, OwnG.nil _ _, OwnG.nil _ _, h.size, fun b hb => ?_, fun b hb => ?_, fun b hb => ?_, fun b hb => hb.elim, if_pos rfl⟩ <;> cases hb

set_option maxRecDepth 100000 in
set_option maxHeartbeats 1000000 in
theorem l_Plays (A0 : Option Addr) (cap0 n : Nat) (a : Nat → OpV) (w : World) (h : RdC w (dOps a n) (.slice A0 n cap0)) (ha : ∀ i, i < n → okOp (a i)) :
    Calls Try.prog 10 #[.slice A0 n cap0] w fun e w' => e = .returned (.bool true) ∧ Below w.heap.size w w' := by
  have hcap := ops_cap h
  have hmax : (n : Int) ≤ 9223372036854775807 := by have := hcap.1; have := hcap.2; unfold maxLen at this; omega
  by_cases h40 : 40 < n
  · have h40' : (40 : Int) < (n : Int) := by omega
    go_enter Try.func10, Try.ntmps10
    go_wp2_with (first | (go_at_call 17; refine (l_awake _).mono ?_; rintro e w' ⟨rfl, hb⟩; (first | (obtain ⟨X, rfl⟩ := plus_again hb) | (obtain ⟨X, rfl⟩ := plus_of_below hb)); clear hb))
    go_ret
    exact ⟨rfl, by (repeat' (first | (with_reducible exact Below.refl _ _) | (with_reducible assumption) | (with_reducible refine below_plus ?_ ?_ _) | (with_reducible refine Below.alloc ?_ ?_ _) | (with_reducible refine Below.drew ?_) | (with_reducible refine below_drewN ?_ _) | (with_reducible refine Below.setCell ?_ ?_ _) | (first | omega | (simp only [World.size_alloc, size_plus, World.size_drew, World.size_setCell] <;> omega) | (simp <;> omega)) | omega | (simp; omega)))⟩
  · have h40' : (n : Int) ≤ 40 := by omega
    have HA := Lib.hid ha
    have H := Lib.hid h
    clear h ha h40
    go_enter Try.func10, Try.ntmps10
    go_wp2_with (first
      | (go_at_call 17; refine (l_awake _).mono ?_; rintro e w' ⟨rfl, hb⟩; (first | (obtain ⟨X, rfl⟩ := plus_again hb) | (obtain ⟨X, rfl⟩ := plus_of_below hb)); clear hb)
      | (go_at_call 22; refine (p_New _).mono ?_; rintro e W0 ⟨rfl, hb0⟩; (have HB0 := Lib.hid (below_trans (below_plus (Below.refl w.heap.size w) (Nat.le_refl _) X) (hb0.mono (by simp)))); clear hb0)
      | ((with_reducible refine wpList_storeR_new (.tmp 6) (.tmp 25) ?_ ?_ W0.heap.size ?_ 0 zeroN none 0 0 ?_ rfl rfl ?_); (with_reducible rfl); rfl; rfl; rfl))
    have HST0 := Lib.hid (Stage.start HB0.out)
    go_loopg [3, 4, 5, 28] n (fun m vi vv vt i wr => ∃ k : Nat, m + k = n ∧ i = .int .i64 k ∧ Left w W0.heap.size k vi vv vt wr)
    case atStart => exact ⟨0, rfl, rfl, _, _, _, _, [], _, Nat.le_refl _, Sim.nil, HST0.out⟩
    case round =>
      obtain ⟨k, hmk, rfl, t, A, cap, S, L, p, hLk, hsim, hst⟩ := hrel
      by_cases hlt : k < n
      · obtain ⟨go, b, rfl, hc⟩ := at_ops H.out hlt
        obtain ⟨hix, hv0, hv1⟩ := HA.out k hlt
        have hck : ∀ j, j < 4 → wr.cell? ⟨go, b + (k * 4 + j), none⟩ = some (opCell (a k) j) := fun j hj => below_keeps hst.below _ _ (hc j hj)
        rcases hak : a k with ⟨wh, ix, vl, tg⟩
        rw [hak] at hck hix hv0 hv1
        have hix : ix < 65536 := hix
        have hv0 : -9223372036854775808 ≤ vl := hv0
        have hv1 : vl ≤ 9223372036854775807 := hv1
        have c0 : wr.cell? ⟨go, b + k * 4, none⟩ = some (.int .i64 wh) := hck 0 (by omega)
        have c1 : wr.cell? ⟨go, b + k * 4 + 1, none⟩ = some (.int .u16 (ix : Int)) := hck 1 (by omega)
        have c2 : wr.cell? ⟨go, b + k * 4 + 2, none⟩ = some (.int .i64 vl) := hck 2 (by omega)
        have c3 : wr.cell? ⟨go, b + k * 4 + 3, none⟩ = some (.int .i64 tg) := hck 3 (by omega)
        have hgo := World.block_lt_of_cell? wr _ c0
        have HSIM := Lib.hid hsim
        obtain ⟨A1, cap1, rfl, -, -⟩ := hst.i.slice
        have hlenL : (L.length : Int) ≤ 40 := by omega
        have HAI : Hid (∀ m, m < L.length → ∃ (g : Nat) (e : PE), A1 = some ⟨g, 0, none⟩ ∧ g < wr.heap.size ∧ wr.cell? ⟨g, m, none⟩ = some (.int .i64 (e.1 : Int)) ∧ L[m]? = some e) := fun m hm => by
          obtain ⟨g, cap, h1, -, h2, h3, -⟩ := hst.i.at flI_len (List.getElem?_eq_getElem hm)
          injection h1 with h1
          have h4 := h3 0 (by omega)
          rw [Nat.mul_one, Nat.add_zero] at h4
          exact ⟨g, _, h1, h2, h4, List.getElem?_eq_getElem hm⟩
        have HWX : Hid (wrap64 (ix : Int) = (ix : Int)) := wrap_u16 hix
        have HST := Lib.hid hst
        clear hck hc hak hsim hst
        go_wp2_with fail
        have hpl := place_le L ix
        have HPS : Hid (∀ m, m ≤ placeL L ix → (m < placeL L ix ↔ ∃ p, L[m]? = some p ∧ p.1 ≠ ix)) := place_step L ix
        generalize hkk : placeL L ix = kk at hpl HPS
        have HKK := Lib.hid hkk
        clear hkk
        generalize hV : World.alloc wr _ = V
        have hVB : Below wr.heap.size wr V := by rw [← hV]; exact below_alloc _ _
        have hVX : V.heap[wr.heap.size]? = some (.cells #[.int .i64 wh, .int .u16 ix, .int .i64 vl, .int .i64 tg] 48 (0, 0)) := by rw [← hV]; exact heap_alloc_new _ _
        have HAV : Hid (∀ m, m < L.length → ∃ (g : Nat) (e : PE), A1 = some ⟨g, 0, none⟩ ∧ V.cell? ⟨g, m, none⟩ = some (.int .i64 (e.1 : Int)) ∧ L[m]? = some e) := fun m hm => by
          obtain ⟨g, e, h1, h2, h3, h4⟩ := HAI.out m hm
          exact ⟨g, e, h1, below_keeps hVB _ _ h3, h4⟩
        have HS6 : Hid (St6 w W0.heap.size t A cap S L L L (.slice A1 L.length cap1) _ _ wr.heap.size _ V) := ⟨⟨_, HST.out.box hVB, newp_new (Nat.le_refl _)⟩, hVX⟩
        clear hV c0 c1 c2 c3 HST hVB HAI hVX
        generalize hgx : wr.heap.size = gx at *
        clear hgx hgo
        go_loop [10] (fun j => ∃ m : Nat, m ≤ kk ∧ j = .int .i64 m) (fun j => kk - (intOf j).toNat)
        case atStart => exact ⟨0, by omega, rfl⟩
        case round =>
          obtain ⟨m, hm, rfl⟩ := hrel
          go_upto_region 10 with fail
          go_cut [46] (fun s46 wx => s46 = .bool (decide (m < kk)) ∧ wx = V)
          case first =>
            have hps := HPS.out m hm
            by_cases hml : m < L.length
            · obtain ⟨gi, e, rfl, ci, he⟩ := HAV.out m hml
              by_cases hne : e.1 = ix
              · have hmk' : m = kk := by
                  rcases Nat.lt_or_ge m kk with h' | h'
                  · obtain ⟨q, hq, hqi⟩ := hps.1 h'
                    rw [he] at hq; injection hq with hq; subst hq; exact absurd hne hqi
                  · omega
                subst hmk'
                have hneb : ((e.1 : Int) != (ix : Int)) = false := by simp [hne]
                clear he hps HAV HPS
                go_wp2_with fail
                go_meet
                exact ⟨congrArg Value.bool (decide_eq_false (by omega)).symm, rfl⟩
              · have hmk' : m < kk := hps.2 ⟨e, he, hne⟩
                have hneb : ((e.1 : Int) != (ix : Int)) = true := by simp; omega
                clear he hps HAV HPS
                go_wp2_with fail
                go_meet
                exact ⟨congrArg Value.bool (decide_eq_true (by omega)).symm, rfl⟩
            · clear hps HAV HPS
              go_wp2_with fail
              go_meet
              exact ⟨congrArg Value.bool (decide_eq_false (by omega)).symm, rfl⟩
          case rest =>
            obtain ⟨rfl, rfl⟩ := hcut
            by_cases hlk : m < kk
            · have hb : decide (m < kk) = true := decide_eq_true hlk
              go_wp2_with fail
              exact ⟨⟨m + 1, by omega, by go_num⟩, by simp [intOf]; omega⟩
            · have hb : decide (m < kk) = false := decide_eq_false hlk
              obtain rfl : kk = m := by omega
              clear hlk hb hm
              go_upto_if 52 with fail
              go_cut [3, 4, 5] (fun vi vv vt wx => Found w W0.heap.size t A cap S (k + 1) kk ix gx #[.int .i64 wh, .int .u16 ix, .int .i64 vl, .int .i64 tg] vi vv vt wx)
              case first =>
                rcases Nat.lt_or_ge kk L.length with hml | hml
                · obtain ⟨e, he⟩ := place_at (L := L) (i := ix) (by rw [HKK.out]; exact hml)
                  rw [HKK.out] at he
                  have heq : ((kk : Int) == (L.length : Int)) = false := by simp; omega
                  clear HAV HPS
                  go_wp2_with fail
                  go_meet
                  exact ⟨L, e, he, by omega, HSIM.out, HS6.out⟩
                · obtain rfl : kk = L.length := by omega
                  have hno := Lib.hid (place_none HKK.out)
                  have h1000 : L.length ≤ 1000 := by omega
                  clear HAV HPS HKK
                  go_wp2_with (first
                    | ((with_reducible refine wpList_appI ?_ (.tmp 53) (.tmp 55) ?_ w.heap.size L _ ?_ HS6.out.oi (ix, e0) _ _ ?_ ?_ HS6.out.size h1000 ?_); rfl; (with_reducible rfl); rfl; rfl; rfl; (intro v1 W1 ha1; have HS7 := Lib.hid (HS6.out.appI ha1); clear ha1))
                    | ((with_reducible refine wpList_appV ?_ (.tmp 57) (.tmp 58) ?_ w.heap.size L _ ?_ HS7.out.ov (ix, e0) _ _ ?_ ?_ HS7.out.size h1000 ?_); rfl; (with_reducible rfl); rfl; rfl; rfl; (intro v2 W2 ha2; have HS8 := Lib.hid (HS7.out.appV ha2); clear ha2))
                    | ((with_reducible refine wpList_appT ?_ (.tmp 60) (.tmp 62) ?_ w.heap.size L _ ?_ HS8.out.ot (ix, e0) _ _ _ ?_ ?_ ?_ HS8.out.size h1000 ?_); rfl; (with_reducible rfl); rfl; rfl; rfl; rfl; (intro v3 W3 ha3; have HS9 := Lib.hid (HS8.out.appT ha3); clear ha3)))
                  go_meet
                  exact ⟨L ++ [(ix, e0)], e0, by rw [List.getElem?_append_right (Nat.le_refl _), Nat.sub_self]; rfl, by simp; omega, HSIM.out.add hix hno.out, HS9.out⟩
              case rest =>
                clear HAV HPS HKK HS6 HSIM hpl hLk hlenL
                obtain ⟨L', e, he, hL', hsim', hst'⟩ := hcut
                obtain ⟨q, hq2, hq⟩ : ∃ q : Nat, q < 2 ∧ bits .and .i64 tg 1 = (q : Int) := ⟨(tg % 2).toNat, by omega, by rw [and1]; omega⟩
                obtain ⟨m, hm1, hmx⟩ : ∃ m : Int, 1 ≤ m ∧ (if 1 < vl then vl else 1) = m := by
                  by_cases h : 1 < vl
                  · exact ⟨vl, by omega, if_pos h⟩
                  · exact ⟨1, by omega, if_neg h⟩
                have d0 : wc.cell? ⟨gx, 0, none⟩ = some (.int .i64 wh) := cell_of_row _ _ _ _ _ _ hst'.x
                have d2 : wc.cell? ⟨gx, 2, none⟩ = some (.int .i64 vl) := cell_of_row _ _ _ _ _ _ hst'.x
                have d3 : wc.cell? ⟨gx, 3, none⟩ = some (.int .i64 tg) := cell_of_row _ _ _ _ _ _ hst'.x
                have HSIM := Lib.hid hsim'
                have HST := Lib.hid hst'
                have HE := Lib.hid he
                clear hsim' hst' he
                go_wp2_with fail
                go_region
                generalize hV1 : World.drew wc = V1
                have hst1 := HST.out.stay (W := V1) (by rw [← hV1]; exact (Below.refl _ _).drew)
                have hmem := List.mem_of_getElem? HE.out
                have HTL : Hid (tl t.1 t.2 ix = e) := (HSIM.out.at_ _ hmem).2
                have hkL := (List.getElem?_eq_some_iff.1 HE.out).1
                obtain ⟨gv, capv, rfl, -⟩ := hst1.ov.at flV_len HE.out
                obtain ⟨gt, capt, rfl, -⟩ := hst1.ot.at flT_len HE.out
                have HST1 := Lib.hid hst1
                have hkL' : (kk : Int) < (L'.length : Int) := by omega
                have hL40 : (L'.length : Int) ≤ 40 := by omega
                clear hV1 d0 d2 d3 hst1 hmem hq hmx HST
                go_upto_region 17 with fail
                generalize hV2 : World.alloc V1 _ = V2
                have H13 : Hid (V2.heap[V1.heap.size]? = some (.cells (cellsR 0 zeroN (.slice none 0 0)) 28 (0, 0))) := by rw [← hV2]; exact heap_alloc_new _ _
                have HVV : Hid (Below V1.heap.size V1 V2) := by rw [← hV2]; exact below_alloc _ _
                have HZ : Hid (V2.heap.size = V1.heap.size + 1) := by rw [← hV2]; exact World.size_alloc _ _
                have hst2 := HST1.out.stay HVV.out
                have d20 : V2.cell? ⟨gx, 0, none⟩ = some (.int .i64 wh) := cell_of_row _ _ _ _ _ _ hst2.x
                have HRD := Lib.hid hst2.tree.rd
                have HCT := Lib.hid hst2.tree.cells
                clear hV2 hst2
                by_cases hw1 : wh = 1
                · -- Tag
                  have hwb : (wh == 1) = true := by simp [hw1]
                  by_cases hz : e.1 = 0
                  · have hzb : (e.1 == 0) = true := by simp [hz]
                    have HCALL : Hid (∀ cs W, RdVals W cs 12 (encR t.1 t.2) → Calls Try.prog 31 #[.agg cs, .int .i64 (ix : Int), .int .i64 (q : Int)] W (TreePost (0, zeroN, 6) W)) := fun cs W hr => by
                      have := p_Tag cs t.1 t.2 ix q W hr (by omega) (by omega)
                      rw [mark_none HSIM.out.ok (by omega) q hq2 true (by rw [HTL.out]; exact hz)] at this
                      exact this
                    clear hz hw1
                    go_wp2_with (first
                    | ((with_reducible refine wpList_loadR (.tmp 6) ?_ ?_ W0.heap.size ?_ t.1 t.2 (.slice A t.2.n cap) ?_ ?_); (with_reducible rfl); rfl; rfl; exact HCT.out)
                    | (go_at_call 31; (with_reducible refine (HCALL.out _ _ HRD.out).mono ?_); rintro e9 W1 ⟨s1, rfl, ho1, hb1⟩; (obtain ⟨A1, cap1, rfl, -⟩ := ho1.slice); have HO1 := Lib.hid ho1; have HB1 := Lib.hid hb1; (have H13b := Lib.hid ((hb1.block _ (lt_of_heap H13.out)).trans H13.out)); clear ho1 hb1)
                    | ((with_reducible refine wpList_storeR (.tmp 13) (.tmp 86) ?_ ?_ V1.heap.size ?_ 0 zeroN A1 zeroN.n cap1 ?_ (cellsR 0 zeroN (.slice none 0 0)) 28 ?_ rfl ?_); (with_reducible rfl); rfl; rfl; rfl; exact H13b.out; generalize hV3 : World.setRow W1 _ _ = V3; (have HB3 : Hid (Below V1.heap.size V1 V3) := by rw [← hV3]; exact below_setRow (HVV.out.trans (HB1.out.mono HVV.out.size)) (Nat.le_refl _) _); (have H13c : Hid (V3.heap[V1.heap.size]? = some (.cells (cellsR 0 zeroN (.slice A1 zeroN.n cap1)) 28 (0, 0))) := by rw [← hV3]; exact setRow_heap _ _ _ _ _ _ H13b.out); (have HO3 : Hid (OwnK V3 zeroN (.slice A1 zeroN.n cap1) (fun b => V1.heap.size ≤ b)) := by rw [← hV3]; exact (OwnK.frame zeroN HO1.out fun b hb _ => setRow_other _ _ _ _ (by have := HZ.out; have : V2.heap.size ≤ b := hb; omega)).mono fun b hb => by have := HZ.out; have : V2.heap.size ≤ b := hb; show V1.heap.size ≤ b; omega); have hs3 := HST1.out.stay HB3.out; (have d30 : V3.cell? ⟨gx, 0, none⟩ = some (.int .i64 wh) := cell_of_row _ _ _ _ _ _ hs3.x); (have dv3 : V3.cell? ⟨gv, kk, none⟩ = some (.int .i64 e.1) := by have := (hs3.ov.at' flV_len HE.out).2.1 0 (by omega); rwa [Nat.mul_one, Nat.add_zero] at this); have HS3 := Lib.hid hs3; clear hV3 hs3))
                    go_roundg (gk - 1)
                    case measure => omega
                    case rel => exact ⟨k + 1, by omega, by go_num, HS3.out.endNo hL' HSIM.out⟩
                  · have hzb : (e.1 == 0) = false := by simp [hz]
                    have hmk := mark_step HSIM.out.ok (i := ix) (by omega) q hq2 true (by rw [HTL.out]; exact hz)
                    rw [HTL.out] at hmk
                    obtain ⟨u, hu⟩ : ∃ u : Nat × RN, u = (t.1, updN (markLeaf q true) ix (t.1 - 1) t.2) := ⟨_, rfl⟩
                    have HU : Hid (okT u.1 u.2 ∧ ∀ j, tl u.1 u.2 j = if j = ix then markE q true e else tl t.1 t.2 j) := by rw [hu]; exact ⟨hmk.1, hmk.2.1⟩
                    have HCALL : Hid (∀ cs W, RdVals W cs 12 (encR t.1 t.2) → Calls Try.prog 31 #[.agg cs, .int .i64 (ix : Int), .int .i64 (q : Int)] W (TreePost ((u.1 : Int), u.2, 0) W)) := fun cs W hr => by
                      have := p_Tag cs t.1 t.2 ix q W hr (by omega) (by omega)
                      rw [hmk.2.2] at this
                      rw [hu]; exact this
                    obtain ⟨bq, hbq⟩ : ∃ bq, (flT (ix, e))[q]? = some (.bool bq) := by
                      have : q = 0 ∨ q = 1 := by omega
                      rcases this with rfl | rfl
                      · exact ⟨_, rfl⟩
                      · exact ⟨_, rfl⟩
                    clear hz hmk hu hw1
                    go_wp2_with (first
                    | ((with_reducible refine wpList_loadR (.tmp 6) ?_ ?_ W0.heap.size ?_ t.1 t.2 (.slice A t.2.n cap) ?_ ?_); (with_reducible rfl); rfl; rfl; exact HCT.out)
                    | (go_at_call 31; (with_reducible refine (HCALL.out _ _ HRD.out).mono ?_); rintro e9 W1 ⟨s1, rfl, ho1, hb1⟩; (obtain ⟨A1, cap1, rfl, -⟩ := ho1.slice); have HO1 := Lib.hid ho1; have HB1 := Lib.hid hb1; (have H13b := Lib.hid ((hb1.block _ (lt_of_heap H13.out)).trans H13.out)); clear ho1 hb1)
                    | ((with_reducible refine wpList_storeR (.tmp 13) (.tmp 86) ?_ ?_ V1.heap.size ?_ (u.1 : Int) u.2 A1 u.2.n cap1 ?_ (cellsR 0 zeroN (.slice none 0 0)) 28 ?_ rfl ?_); (with_reducible rfl); rfl; rfl; rfl; exact H13b.out; generalize hV3 : World.setRow W1 _ _ = V3; (have HB3 : Hid (Below V1.heap.size V1 V3) := by rw [← hV3]; exact below_setRow (HVV.out.trans (HB1.out.mono HVV.out.size)) (Nat.le_refl _) _); (have H13c : Hid (V3.heap[V1.heap.size]? = some (.cells (cellsR (u.1 : Int) u.2 (.slice A1 u.2.n cap1)) 28 (0, 0))) := by rw [← hV3]; exact setRow_heap _ _ _ _ _ _ H13b.out); (have HO3 : Hid (OwnK V3 u.2 (.slice A1 u.2.n cap1) (fun b => V1.heap.size ≤ b)) := by rw [← hV3]; exact (OwnK.frame u.2 HO1.out fun b hb _ => setRow_other _ _ _ _ (by have := HZ.out; have : V2.heap.size ≤ b := hb; omega)).mono fun b hb => by have := HZ.out; have : V2.heap.size ≤ b := hb; show V1.heap.size ≤ b; omega); have hs3 := HST1.out.stay HB3.out; (have d30 : V3.cell? ⟨gx, 0, none⟩ = some (.int .i64 wh) := cell_of_row _ _ _ _ _ _ hs3.x); (have dv3 : V3.cell? ⟨gv, kk, none⟩ = some (.int .i64 e.1) := by have := (hs3.ov.at' flV_len HE.out).2.1 0 (by omega); rwa [Nat.mul_one, Nat.add_zero] at this); have HS3 := Lib.hid hs3; clear hV3 hs3)
                    | ((with_reducible refine wpList_loadR (.tmp 13) ?_ ?_ V1.heap.size ?_ (u.1 : Int) u.2 (.slice A1 u.2.n cap1) ?_ ?_); (with_reducible rfl); rfl; rfl; (intro j v hj; rw [cell_of_row _ _ _ _ _ _ H13c.out]; simpa using hj))
                    | ((with_reducible refine wpList_storeR (.tmp 6) (.tmp 124) ?_ ?_ W0.heap.size ?_ (u.1 : Int) u.2 A1 u.2.n cap1 ?_ _ 28 HS3.out.tree.blk rfl ?_); (with_reducible rfl); rfl; rfl; rfl; generalize hV4 : World.setRow V3 _ _ = V4; (obtain ⟨S4, hs4⟩ : ∃ S4, St6 w W0.heap.size u A1 cap1 S4 L' L' L' _ _ _ gx _ V4 := by rw [← hV4]; exact HST1.out.store HB3.out HO3.out); (have d40 : V4.cell? ⟨gx, 0, none⟩ = some (.int .i64 wh) := cell_of_row _ _ _ _ _ _ hs4.x); (have ct4 : V4.cell? ⟨gt, kk * 2 + q, none⟩ = some (.bool bq) := ((hs4.ot.at' flT_len HE.out).2.1 q hq2).trans hbq); (have cf4 : V4.frozen? ⟨gt, kk * 2 + q, none⟩ = false := (hs4.ot.at' flT_len HE.out).2.2.1 _); have gl4 := (hs4.ot.at' flT_len HE.out).1; have HS4 := Lib.hid hs4; clear hV4 hs4 d30))
                    go_roundg (gk - 1)
                    case measure => omega
                    case rel => exact ⟨k + 1, by omega, by go_num, HS4.out.endTag HE.out hq2 hL' HSIM.out HU.out⟩
                · by_cases hw2 : wh = 2
                  · -- Untag
                    have hwb : (wh == 2) = true := by simp [hw2]
                    have hw1b : (wh == 1) = false := by simp [hw1]
                    by_cases hz : e.1 = 0
                    · have hzb : (e.1 == 0) = true := by simp [hz]
                      have HCALL : Hid (∀ cs W, RdVals W cs 12 (encR t.1 t.2) → Calls Try.prog 33 #[.agg cs, .int .i64 (ix : Int), .int .i64 (q : Int)] W (TreePost (0, zeroN, 6) W)) := fun cs W hr => by
                        have := p_Untag cs t.1 t.2 ix q W hr (by omega) (by omega)
                        rw [mark_none HSIM.out.ok (by omega) q hq2 false (by rw [HTL.out]; exact hz)] at this
                        exact this
                      clear hz hw2
                      go_wp2_with (first
                      | ((with_reducible refine wpList_loadR (.tmp 6) ?_ ?_ W0.heap.size ?_ t.1 t.2 (.slice A t.2.n cap) ?_ ?_); (with_reducible rfl); rfl; rfl; exact HCT.out)
                      | (go_at_call 33; (with_reducible refine (HCALL.out _ _ HRD.out).mono ?_); rintro e9 W1 ⟨s1, rfl, ho1, hb1⟩; (obtain ⟨A1, cap1, rfl, -⟩ := ho1.slice); have HO1 := Lib.hid ho1; have HB1 := Lib.hid hb1; (have H13b := Lib.hid ((hb1.block _ (lt_of_heap H13.out)).trans H13.out)); clear ho1 hb1)
                      | ((with_reducible refine wpList_storeR (.tmp 13) (.tmp 95) ?_ ?_ V1.heap.size ?_ 0 zeroN A1 zeroN.n cap1 ?_ (cellsR 0 zeroN (.slice none 0 0)) 28 ?_ rfl ?_); (with_reducible rfl); rfl; rfl; rfl; exact H13b.out; generalize hV3 : World.setRow W1 _ _ = V3; (have HB3 : Hid (Below V1.heap.size V1 V3) := by rw [← hV3]; exact below_setRow (HVV.out.trans (HB1.out.mono HVV.out.size)) (Nat.le_refl _) _); (have H13c : Hid (V3.heap[V1.heap.size]? = some (.cells (cellsR 0 zeroN (.slice A1 zeroN.n cap1)) 28 (0, 0))) := by rw [← hV3]; exact setRow_heap _ _ _ _ _ _ H13b.out); (have HO3 : Hid (OwnK V3 zeroN (.slice A1 zeroN.n cap1) (fun b => V1.heap.size ≤ b)) := by rw [← hV3]; exact (OwnK.frame zeroN HO1.out fun b hb _ => setRow_other _ _ _ _ (by have := HZ.out; have : V2.heap.size ≤ b := hb; omega)).mono fun b hb => by have := HZ.out; have : V2.heap.size ≤ b := hb; show V1.heap.size ≤ b; omega); have hs3 := HST1.out.stay HB3.out; (have d30 : V3.cell? ⟨gx, 0, none⟩ = some (.int .i64 wh) := cell_of_row _ _ _ _ _ _ hs3.x); (have dv3 : V3.cell? ⟨gv, kk, none⟩ = some (.int .i64 e.1) := by have := (hs3.ov.at' flV_len HE.out).2.1 0 (by omega); rwa [Nat.mul_one, Nat.add_zero] at this); have HS3 := Lib.hid hs3; clear hV3 hs3))
                      go_roundg (gk - 1)
                      case measure => omega
                      case rel => exact ⟨k + 1, by omega, by go_num, HS3.out.endNo hL' HSIM.out⟩
                    · have hzb : (e.1 == 0) = false := by simp [hz]
                      have hmk := mark_step HSIM.out.ok (i := ix) (by omega) q hq2 false (by rw [HTL.out]; exact hz)
                      rw [HTL.out] at hmk
                      obtain ⟨u, hu⟩ : ∃ u : Nat × RN, u = (t.1, updN (markLeaf q false) ix (t.1 - 1) t.2) := ⟨_, rfl⟩
                      have HU : Hid (okT u.1 u.2 ∧ ∀ j, tl u.1 u.2 j = if j = ix then markE q false e else tl t.1 t.2 j) := by rw [hu]; exact ⟨hmk.1, hmk.2.1⟩
                      have HCALL : Hid (∀ cs W, RdVals W cs 12 (encR t.1 t.2) → Calls Try.prog 33 #[.agg cs, .int .i64 (ix : Int), .int .i64 (q : Int)] W (TreePost ((u.1 : Int), u.2, 0) W)) := fun cs W hr => by
                        have := p_Untag cs t.1 t.2 ix q W hr (by omega) (by omega)
                        rw [hmk.2.2] at this
                        rw [hu]; exact this
                      obtain ⟨bq, hbq⟩ : ∃ bq, (flT (ix, e))[q]? = some (.bool bq) := by
                        have : q = 0 ∨ q = 1 := by omega
                        rcases this with rfl | rfl
                        · exact ⟨_, rfl⟩
                        · exact ⟨_, rfl⟩
                      clear hz hmk hu hw2
                      go_wp2_with (first
                      | ((with_reducible refine wpList_loadR (.tmp 6) ?_ ?_ W0.heap.size ?_ t.1 t.2 (.slice A t.2.n cap) ?_ ?_); (with_reducible rfl); rfl; rfl; exact HCT.out)
                      | (go_at_call 33; (with_reducible refine (HCALL.out _ _ HRD.out).mono ?_); rintro e9 W1 ⟨s1, rfl, ho1, hb1⟩; (obtain ⟨A1, cap1, rfl, -⟩ := ho1.slice); have HO1 := Lib.hid ho1; have HB1 := Lib.hid hb1; (have H13b := Lib.hid ((hb1.block _ (lt_of_heap H13.out)).trans H13.out)); clear ho1 hb1)
                      | ((with_reducible refine wpList_storeR (.tmp 13) (.tmp 95) ?_ ?_ V1.heap.size ?_ (u.1 : Int) u.2 A1 u.2.n cap1 ?_ (cellsR 0 zeroN (.slice none 0 0)) 28 ?_ rfl ?_); (with_reducible rfl); rfl; rfl; rfl; exact H13b.out; generalize hV3 : World.setRow W1 _ _ = V3; (have HB3 : Hid (Below V1.heap.size V1 V3) := by rw [← hV3]; exact below_setRow (HVV.out.trans (HB1.out.mono HVV.out.size)) (Nat.le_refl _) _); (have H13c : Hid (V3.heap[V1.heap.size]? = some (.cells (cellsR (u.1 : Int) u.2 (.slice A1 u.2.n cap1)) 28 (0, 0))) := by rw [← hV3]; exact setRow_heap _ _ _ _ _ _ H13b.out); (have HO3 : Hid (OwnK V3 u.2 (.slice A1 u.2.n cap1) (fun b => V1.heap.size ≤ b)) := by rw [← hV3]; exact (OwnK.frame u.2 HO1.out fun b hb _ => setRow_other _ _ _ _ (by have := HZ.out; have : V2.heap.size ≤ b := hb; omega)).mono fun b hb => by have := HZ.out; have : V2.heap.size ≤ b := hb; show V1.heap.size ≤ b; omega); have hs3 := HST1.out.stay HB3.out; (have d30 : V3.cell? ⟨gx, 0, none⟩ = some (.int .i64 wh) := cell_of_row _ _ _ _ _ _ hs3.x); (have dv3 : V3.cell? ⟨gv, kk, none⟩ = some (.int .i64 e.1) := by have := (hs3.ov.at' flV_len HE.out).2.1 0 (by omega); rwa [Nat.mul_one, Nat.add_zero] at this); have HS3 := Lib.hid hs3; clear hV3 hs3)
                      | ((with_reducible refine wpList_loadR (.tmp 13) ?_ ?_ V1.heap.size ?_ (u.1 : Int) u.2 (.slice A1 u.2.n cap1) ?_ ?_); (with_reducible rfl); rfl; rfl; (intro j v hj; rw [cell_of_row _ _ _ _ _ _ H13c.out]; simpa using hj))
                      | ((with_reducible refine wpList_storeR (.tmp 6) (.tmp 124) ?_ ?_ W0.heap.size ?_ (u.1 : Int) u.2 A1 u.2.n cap1 ?_ _ 28 HS3.out.tree.blk rfl ?_); (with_reducible rfl); rfl; rfl; rfl; generalize hV4 : World.setRow V3 _ _ = V4; (obtain ⟨S4, hs4⟩ : ∃ S4, St6 w W0.heap.size u A1 cap1 S4 L' L' L' _ _ _ gx _ V4 := by rw [← hV4]; exact HST1.out.store HB3.out HO3.out); (have d40 : V4.cell? ⟨gx, 0, none⟩ = some (.int .i64 wh) := cell_of_row _ _ _ _ _ _ hs4.x); (have ct4 : V4.cell? ⟨gt, kk * 2 + q, none⟩ = some (.bool bq) := ((hs4.ot.at' flT_len HE.out).2.1 q hq2).trans hbq); (have cf4 : V4.frozen? ⟨gt, kk * 2 + q, none⟩ = false := (hs4.ot.at' flT_len HE.out).2.2.1 _); have gl4 := (hs4.ot.at' flT_len HE.out).1; have HS4 := Lib.hid hs4; clear hV4 hs4 d30))
                      go_roundg (gk - 1)
                      case measure => omega
                      case rel => exact ⟨k + 1, by omega, by go_num, HS4.out.endTag HE.out hq2 hL' HSIM.out HU.out⟩
                  · by_cases hw3 : wh = 3
                    · -- Set 0
                      have hwb : (wh == 3) = true := by simp [hw3]
                      have hw1b : (wh == 1) = false := by simp [hw1]
                      have hw2b : (wh == 2) = false := by simp [hw2]
                      have hmk := step_ok HSIM.out.ok (i := ix) (by omega) 0
                      rw [HTL.out] at hmk
                      generalize stepT t ix 0 = u at hmk
                      have HU : Hid (okT u.1 u.2 ∧ ∀ j, tl u.1 u.2 j = if j = ix then setE 0 e else tl t.1 t.2 j) := ⟨hmk.1, hmk.2.1⟩
                      have HCALL : Hid (∀ cs W, RdVals W cs 12 (encR t.1 t.2) → Calls Try.prog 24 #[.agg cs, .int .i64 (ix : Int), .int .i64 0] W (TreePost ((u.1 : Int), u.2, 0) W)) := fun cs W hr => by
                        have := p_Set cs t.1 t.2 ix 0 W hr
                        rw [hmk.2.2] at this
                        exact this
                      clear hmk hw1 hw2 hw3
                      go_wp2_with (first
                        | ((with_reducible refine wpList_loadR (.tmp 6) ?_ ?_ W0.heap.size ?_ t.1 t.2 (.slice A t.2.n cap) ?_ ?_); (with_reducible rfl); rfl; rfl; exact HCT.out)
                        | (go_at_call 24; (with_reducible refine (HCALL.out _ _ HRD.out).mono ?_); rintro e9 W1 ⟨s1, rfl, ho1, hb1⟩; (obtain ⟨A1, cap1, rfl, -⟩ := ho1.slice); have HO1 := Lib.hid ho1; have HB1 := Lib.hid hb1; (have H13b := Lib.hid ((hb1.block _ (lt_of_heap H13.out)).trans H13.out)); clear ho1 hb1)
                        | ((with_reducible refine wpList_storeR (.tmp 13) (.tmp 103) ?_ ?_ V1.heap.size ?_ (u.1 : Int) u.2 A1 u.2.n cap1 ?_ (cellsR 0 zeroN (.slice none 0 0)) 28 ?_ rfl ?_); (with_reducible rfl); rfl; rfl; rfl; exact H13b.out; generalize hV3 : World.setRow W1 _ _ = V3; (have HB3 : Hid (Below V1.heap.size V1 V3) := by rw [← hV3]; exact below_setRow (HVV.out.trans (HB1.out.mono HVV.out.size)) (Nat.le_refl _) _); (have H13c : Hid (V3.heap[V1.heap.size]? = some (.cells (cellsR (u.1 : Int) u.2 (.slice A1 u.2.n cap1)) 28 (0, 0))) := by rw [← hV3]; exact setRow_heap _ _ _ _ _ _ H13b.out); (have HO3 : Hid (OwnK V3 u.2 (.slice A1 u.2.n cap1) (fun b => V1.heap.size ≤ b)) := by rw [← hV3]; exact (OwnK.frame u.2 HO1.out fun b hb _ => setRow_other _ _ _ _ (by have := HZ.out; have : V2.heap.size ≤ b := hb; omega)).mono fun b hb => by have := HZ.out; have : V2.heap.size ≤ b := hb; show V1.heap.size ≤ b; omega); have hs3 := HST1.out.stay HB3.out; (have d30 : V3.cell? ⟨gx, 0, none⟩ = some (.int .i64 wh) := cell_of_row _ _ _ _ _ _ hs3.x); have HS3 := Lib.hid hs3; clear hV3 hs3)
                        | ((with_reducible refine wpList_loadR (.tmp 13) ?_ ?_ V1.heap.size ?_ (u.1 : Int) u.2 (.slice A1 u.2.n cap1) ?_ ?_); (with_reducible rfl); rfl; rfl; (intro j v hj; rw [cell_of_row _ _ _ _ _ _ H13c.out]; simpa using hj))
                        | ((with_reducible refine wpList_storeR (.tmp 6) (.tmp 124) ?_ ?_ W0.heap.size ?_ (u.1 : Int) u.2 A1 u.2.n cap1 ?_ _ 28 HS3.out.tree.blk rfl ?_); (with_reducible rfl); rfl; rfl; rfl; generalize hV4 : World.setRow V3 _ _ = V4; (obtain ⟨S4, hs4⟩ : ∃ S4, St6 w W0.heap.size u A1 cap1 S4 L' L' L' _ _ _ gx _ V4 := by rw [← hV4]; exact HST1.out.store HB3.out HO3.out); (have d40 : V4.cell? ⟨gx, 0, none⟩ = some (.int .i64 wh) := cell_of_row _ _ _ _ _ _ hs4.x); (have cv4 : V4.cell? ⟨gv, kk, none⟩ = some (.int .i64 e.1) := by have := (hs4.ov.at' flV_len HE.out).2.1 0 (by omega); rwa [Nat.mul_one, Nat.add_zero] at this); (have cf4 : V4.frozen? ⟨gv, kk, none⟩ = false := (hs4.ov.at' flV_len HE.out).2.2.1 _); have gl4 := (hs4.ov.at' flV_len HE.out).1; (obtain ⟨curT, hcT, hsT, -⟩ := hs4.ot.block gt _ _ rfl); have HCT4 := Lib.hid hcT; have HST4 := Lib.hid hsT; have HNE4 := Lib.hid hs4.ne; have HS4 := Lib.hid hs4; clear hV4 hs4 d30 hcT hsT)
                        | ((with_reducible refine wpList_storeT (.tmp 153) (.tmp 151) ?_ ?_ gt (kk * 2) ?_ false false ?_ curT _ ((heap_setCell_other _ _ _ _ HNE4.out).trans HCT4.out) (by have := HST4.out; omega) ?_); (with_reducible rfl); rfl; rfl; rfl))
                      go_roundg (gk - 1)
                      case measure => omega
                      case rel => exact ⟨k + 1, by omega, by go_num, HS4.out.endDel HE.out hL' HSIM.out HU.out⟩
                    · -- Set m
                      have hw3b : (wh == 3) = false := by simp [hw3]
                      have hw1b : (wh == 1) = false := by simp [hw1]
                      have hw2b : (wh == 2) = false := by simp [hw2]
                      have hmk := step_ok HSIM.out.ok (i := ix) (by omega) m
                      rw [HTL.out] at hmk
                      generalize stepT t ix m = u at hmk
                      have HU : Hid (okT u.1 u.2 ∧ ∀ j, tl u.1 u.2 j = if j = ix then setE m e else tl t.1 t.2 j) := ⟨hmk.1, hmk.2.1⟩
                      have HCALL : Hid (∀ cs W, RdVals W cs 12 (encR t.1 t.2) → Calls Try.prog 24 #[.agg cs, .int .i64 (ix : Int), .int .i64 m] W (TreePost ((u.1 : Int), u.2, 0) W)) := fun cs W hr => by
                        have := p_Set cs t.1 t.2 ix m W hr
                        rw [hmk.2.2] at this
                        exact this
                      clear hmk hw1 hw2 hw3
                      go_wp2_with (first
                        | ((with_reducible refine wpList_loadR (.tmp 6) ?_ ?_ W0.heap.size ?_ t.1 t.2 (.slice A t.2.n cap) ?_ ?_); (with_reducible rfl); rfl; rfl; exact HCT.out)
                        | (go_at_call 24; (with_reducible refine (HCALL.out _ _ HRD.out).mono ?_); rintro e9 W1 ⟨s1, rfl, ho1, hb1⟩; (obtain ⟨A1, cap1, rfl, -⟩ := ho1.slice); have HO1 := Lib.hid ho1; have HB1 := Lib.hid hb1; (have H13b := Lib.hid ((hb1.block _ (lt_of_heap H13.out)).trans H13.out)); clear ho1 hb1)
                        | ((with_reducible refine wpList_storeR (.tmp 13) (.tmp 77) ?_ ?_ V1.heap.size ?_ (u.1 : Int) u.2 A1 u.2.n cap1 ?_ (cellsR 0 zeroN (.slice none 0 0)) 28 ?_ rfl ?_); (with_reducible rfl); rfl; rfl; rfl; exact H13b.out; generalize hV3 : World.setRow W1 _ _ = V3; (have HB3 : Hid (Below V1.heap.size V1 V3) := by rw [← hV3]; exact below_setRow (HVV.out.trans (HB1.out.mono HVV.out.size)) (Nat.le_refl _) _); (have H13c : Hid (V3.heap[V1.heap.size]? = some (.cells (cellsR (u.1 : Int) u.2 (.slice A1 u.2.n cap1)) 28 (0, 0))) := by rw [← hV3]; exact setRow_heap _ _ _ _ _ _ H13b.out); (have HO3 : Hid (OwnK V3 u.2 (.slice A1 u.2.n cap1) (fun b => V1.heap.size ≤ b)) := by rw [← hV3]; exact (OwnK.frame u.2 HO1.out fun b hb _ => setRow_other _ _ _ _ (by have := HZ.out; have : V2.heap.size ≤ b := hb; omega)).mono fun b hb => by have := HZ.out; have : V2.heap.size ≤ b := hb; show V1.heap.size ≤ b; omega); have hs3 := HST1.out.stay HB3.out; (have d30 : V3.cell? ⟨gx, 0, none⟩ = some (.int .i64 wh) := cell_of_row _ _ _ _ _ _ hs3.x); have HS3 := Lib.hid hs3; clear hV3 hs3)
                        | ((with_reducible refine wpList_loadR (.tmp 13) ?_ ?_ V1.heap.size ?_ (u.1 : Int) u.2 (.slice A1 u.2.n cap1) ?_ ?_); (with_reducible rfl); rfl; rfl; (intro j v hj; rw [cell_of_row _ _ _ _ _ _ H13c.out]; simpa using hj))
                        | ((with_reducible refine wpList_storeR (.tmp 6) (.tmp 124) ?_ ?_ W0.heap.size ?_ (u.1 : Int) u.2 A1 u.2.n cap1 ?_ _ 28 HS3.out.tree.blk rfl ?_); (with_reducible rfl); rfl; rfl; rfl; generalize hV4 : World.setRow V3 _ _ = V4; (obtain ⟨S4, hs4⟩ : ∃ S4, St6 w W0.heap.size u A1 cap1 S4 L' L' L' _ _ _ gx _ V4 := by rw [← hV4]; exact HST1.out.store HB3.out HO3.out); (have d40 : V4.cell? ⟨gx, 0, none⟩ = some (.int .i64 wh) := cell_of_row _ _ _ _ _ _ hs4.x); (have cv4 : V4.cell? ⟨gv, kk, none⟩ = some (.int .i64 e.1) := by have := (hs4.ov.at' flV_len HE.out).2.1 0 (by omega); rwa [Nat.mul_one, Nat.add_zero] at this); (have cf4 : V4.frozen? ⟨gv, kk, none⟩ = false := (hs4.ov.at' flV_len HE.out).2.2.1 _); have gl4 := (hs4.ov.at' flV_len HE.out).1; have HS4 := Lib.hid hs4; clear hV4 hs4 d30))
                      go_roundg (gk - 1)
                      case measure => omega
                      case rel => exact ⟨k + 1, by omega, by go_num, HS4.out.endSet HE.out hL' HSIM.out (by omega) HU.out⟩
      · obtain rfl : k = n := by omega
        obtain ⟨A1, cap1, rfl, -, -⟩ := hst.i.slice
        obtain ⟨A2, cap2, rfl, -, -⟩ := hst.v.slice
        obtain ⟨A3, cap3, rfl, -, -⟩ := hst.t.slice
        have hlenL : (L.length : Int) ≤ 40 := by omega
        have HST := Lib.hid hst
        have HSIM := Lib.hid hsim
        have HBW := Lib.hid hst.below
        clear hst hsim hmk hLk hlt
        go_wp2_with fail
        go_loopw [15, 157] (fun cnt i wx => ∃ m : Nat, m ≤ L.length ∧ i = .int .i64 m ∧ cnt = .int .i64 (numL (L.take m)) ∧ Below wr.heap.size wr wx) (fun _ i _ => L.length - (intOf i).toNat)
        case atStart => exact ⟨0, by omega, rfl, rfl, Below.refl _ _⟩
        case round =>
          obtain ⟨m, hm, rfl, rfl, hbl⟩ := hrel
          have hsm := HST.out.stay hbl
          by_cases hlt : m < L.length
          · have hlt' : (m : Int) < (L.length : Int) := by omega
            have hp : L[m]? = some L[m] := List.getElem?_eq_getElem hlt
            have hmem : L[m] ∈ L := List.getElem_mem hlt
            have hnum := num_snoc hp
            have hn40 : (numL (L.take m) : Int) ≤ 40 := by have := numL_le (L.take m); rw [List.length_take] at this; omega
            obtain ⟨g1, c1, h1, -, hl1, hc1, -⟩ := hsm.i.at flI_len hp
            obtain ⟨g2, c2, h2, -, hl2, hc2, -⟩ := hsm.v.at flV_len hp
            obtain ⟨g3, c3, h3, -, hl3, hc3, -⟩ := hsm.t.at flT_len hp
            injection h1 with h1
            injection h2 with h2
            injection h3 with h3
            subst h1 h2 h3
            have hg := HSIM.out.get hmem
            have ht := HSIM.out.tag hmem
            have hix := (HSIM.out.at_ _ hmem).1
            have i0 := hc1 0 (by omega)
            have v0 := hc2 0 (by omega)
            have b0 := hc3 0 (by omega)
            have b1 := hc3 1 (by omega)
            clear hc1 hc2 hc3 hp hmem
            generalize L[m] = pe at *
            obtain ⟨ix, vl, y0, y1⟩ := pe
            rw [Nat.mul_one, Nat.add_zero] at i0 v0
            rw [Nat.add_zero] at b0
            have i1 : wr.cell? ⟨g1, m, none⟩ = some (.int .i64 (ix : Int)) := i0
            have v1 : wr.cell? ⟨g2, m, none⟩ = some (.int .i64 vl) := v0
            have t0 : wr.cell? ⟨g3, m * 2, none⟩ = some (.bool y0) := b0
            have t1 : wr.cell? ⟨g3, m * 2 + 1, none⟩ = some (.bool y1) := b1
            have HGET : Hid (∀ cs W, RdVals W cs 12 (encR t.1 t.2) → Calls Try.prog 26 #[.agg cs, .int .i64 (ix : Int)] W fun e w' => e = .returned (.int .i64 vl) ∧ Below W.heap.size W w') := fun cs W hr => by
              have := p_Get cs t.1 t.2 ix W hr (by omega) (by omega)
              rw [hg] at this; exact this
            have HTG : Hid (∀ tag cs W, RdVals W cs 12 (encR t.1 t.2) → Calls Try.prog 29 #[.agg cs, .int .i64 (ix : Int), .int .i64 tag] W fun e w' => e = .returned (.bool (taggedP t.1 t.2 ix tag)) ∧ Below W.heap.size W w') := fun tag cs W hr => p_Tagged cs t.1 t.2 ix tag W hr (by omega) (by omega)
            have ht0 : taggedP t.1 t.2 ix 0 = y0 := ht.1
            have ht1 : taggedP t.1 t.2 ix 1 = y1 := ht.2
            have HRD := Lib.hid hsm.tree.rd
            have dW := row12 hsm.tree.blk
            have hlW := hsm.tree.lt
            have hvv : (vl != vl) = false := by simp
            have hy0 : (y0 != y0) = false := by simp
            have hy1 : (y1 != y1) = false := by simp
            have HNUM : Hid (numL (L.take (m + 1)) = numL (L.take m) + if vl = 0 then 0 else 1) := hnum
            have HBL := Lib.hid hbl
            clear hnum hg ht hsm i0 v0 b0 b1 hbl
            generalize numL (L.take m) = cnt at *
            by_cases hz : vl = 0
            · have hzb : (vl != 0) = false := by simp [hz]
              rw [if_pos hz] at HNUM
              clear hz
              go_upto_region 44 with fail
              (refine wp_region_quiet_plus (by kernel_rfl) (by kernel_rfl) ?_; (repeat (go_big_quiet_step ((first
                | (go_at_call 26; (with_reducible refine Calls.quiet_plus (HGET.out _ _ ?_)); exact HRD.out.keep (below_keeps (by (repeat' (first | (with_reducible exact Below.refl _ _) | (with_reducible assumption) | (with_reducible refine below_plus ?_ ?_ _) | (with_reducible refine Below.alloc ?_ ?_ _) | (with_reducible refine Below.drew ?_) | (with_reducible refine below_drewN ?_ _) | (with_reducible refine Below.setCell ?_ ?_ _) | (first | omega | (simp only [World.size_alloc, size_plus, World.size_drew, World.size_setCell] <;> omega) | (simp <;> omega)) | omega | (simp; omega))))))
                | (go_at_call 29; (with_reducible refine Calls.quiet_plus (HTG.out _ _ _ ?_)); exact HRD.out.keep (below_keeps (by (repeat' (first | (with_reducible exact Below.refl _ _) | (with_reducible assumption) | (with_reducible refine below_plus ?_ ?_ _) | (with_reducible refine Below.alloc ?_ ?_ _) | (with_reducible refine Below.drew ?_) | (with_reducible refine below_drewN ?_ _) | (with_reducible refine Below.setCell ?_ ?_ _) | (first | omega | (simp only [World.size_alloc, size_plus, World.size_drew, World.size_setCell] <;> omega) | (simp <;> omega)) | omega | (simp; omega)))))))))); refine wpQuiet_nil ?_; intro _)
              go_wp2_with fail
              exact ⟨⟨m + 1, by omega, by go_num, by rw [HNUM.out]; rfl, below_plus HBL.out HBL.out.size _⟩, by simp [intOf]; omega⟩
            · have hzb : (vl != 0) = true := by simp [hz]
              rw [if_neg hz] at HNUM
              clear hz
              go_upto_region 44 with fail
              (refine wp_region_quiet_plus (by kernel_rfl) (by kernel_rfl) ?_; (repeat (go_big_quiet_step ((first
                | (go_at_call 26; (with_reducible refine Calls.quiet_plus (HGET.out _ _ ?_)); exact HRD.out.keep (below_keeps (by (repeat' (first | (with_reducible exact Below.refl _ _) | (with_reducible assumption) | (with_reducible refine below_plus ?_ ?_ _) | (with_reducible refine Below.alloc ?_ ?_ _) | (with_reducible refine Below.drew ?_) | (with_reducible refine below_drewN ?_ _) | (with_reducible refine Below.setCell ?_ ?_ _) | (first | omega | (simp only [World.size_alloc, size_plus, World.size_drew, World.size_setCell] <;> omega) | (simp <;> omega)) | omega | (simp; omega))))))
                | (go_at_call 29; (with_reducible refine Calls.quiet_plus (HTG.out _ _ _ ?_)); exact HRD.out.keep (below_keeps (by (repeat' (first | (with_reducible exact Below.refl _ _) | (with_reducible assumption) | (with_reducible refine below_plus ?_ ?_ _) | (with_reducible refine Below.alloc ?_ ?_ _) | (with_reducible refine Below.drew ?_) | (with_reducible refine below_drewN ?_ _) | (with_reducible refine Below.setCell ?_ ?_ _) | (first | omega | (simp only [World.size_alloc, size_plus, World.size_drew, World.size_setCell] <;> omega) | (simp <;> omega)) | omega | (simp; omega)))))))))); refine wpQuiet_nil ?_; intro _)
              go_wp2_with fail
              exact ⟨⟨m + 1, by omega, by go_num, by rw [HNUM.out]; go_num, below_plus HBL.out HBL.out.size _⟩, by simp [intOf]; omega⟩
          · obtain rfl : m = L.length := by omega
            have HCN : Hid (∀ cs W, RdVals W cs 12 (encR t.1 t.2) → Calls Try.prog 30 #[.agg cs, .int .i64 (-1)] W fun e w' => e = .returned (.int .i64 (numL L)) ∧ Below W.heap.size W w') := fun cs W hr => by
              have := p_Count cs t.1 t.2 (-1) W hr
              rw [HSIM.out.count] at this; exact this
            have HCK : Hid (∀ cs W, RdVals W cs 12 (encR t.1 t.2) → Calls Try.prog 19 #[.agg cs] W fun e w' => e = .returned (.int .i64 0) ∧ Below W.heap.size W w') := fun cs W hr => by
              have := p_Check cs t.1 t.2 W hr
              rw [check_iff.2 HSIM.out.ok] at this; exact this
            have HRD := Lib.hid hsm.tree.rd
            have HCT := Lib.hid hsm.tree.cells
            have HBL := Lib.hid hbl
            clear hsm hbl
            rw [List.take_length]
            have hnn : ((numL L : Int) == (numL L : Int)) = true := by simp
            go_wp2_with (first
              | ((with_reducible refine wpList_loadR (.tmp 6) ?_ ?_ W0.heap.size ?_ t.1 t.2 (.slice A t.2.n cap) ?_ ?_); (with_reducible rfl); rfl; rfl; (intro j v hj; exact below_keeps (by (repeat' (first | (with_reducible exact Below.refl _ _) | (with_reducible assumption) | (with_reducible refine below_plus ?_ ?_ _) | (with_reducible refine Below.alloc ?_ ?_ _) | (with_reducible refine Below.drew ?_) | (with_reducible refine below_drewN ?_ _) | (with_reducible refine Below.setCell ?_ ?_ _) | (first | omega | (simp only [World.size_alloc, size_plus, World.size_drew, World.size_setCell] <;> omega) | (simp <;> omega)) | omega | (simp; omega)))) _ _ (HCT.out j v hj)))
              | (go_at_call 30; (with_reducible refine (HCN.out _ _ ?_).mono ?_); exact HRD.out.keep (below_keeps (by (repeat' (first | (with_reducible exact Below.refl _ _) | (with_reducible assumption) | (with_reducible refine below_plus ?_ ?_ _) | (with_reducible refine Below.alloc ?_ ?_ _) | (with_reducible refine Below.drew ?_) | (with_reducible refine below_drewN ?_ _) | (with_reducible refine Below.setCell ?_ ?_ _) | (first | omega | (simp only [World.size_alloc, size_plus, World.size_drew, World.size_setCell] <;> omega) | (simp <;> omega)) | omega | (simp; omega))))); rintro e w' ⟨rfl, hb⟩; (first | (obtain ⟨X, rfl⟩ := plus_again hb) | (obtain ⟨X, rfl⟩ := plus_of_below hb)); clear hb)
              | (go_at_call 19; (with_reducible refine (HCK.out _ _ ?_).mono ?_); exact HRD.out.keep (below_keeps (by (repeat' (first | (with_reducible exact Below.refl _ _) | (with_reducible assumption) | (with_reducible refine below_plus ?_ ?_ _) | (with_reducible refine Below.alloc ?_ ?_ _) | (with_reducible refine Below.drew ?_) | (with_reducible refine below_drewN ?_ _) | (with_reducible refine Below.setCell ?_ ?_ _) | (first | omega | (simp only [World.size_alloc, size_plus, World.size_drew, World.size_setCell] <;> omega) | (simp <;> omega)) | omega | (simp; omega))))); rintro e w' ⟨rfl, hb⟩; (first | (obtain ⟨X, rfl⟩ := plus_again hb) | (obtain ⟨X, rfl⟩ := plus_of_below hb)); clear hb))
            go_ret
            exact ⟨rfl, below_plus (HBW.out.trans (HBL.out.mono HBW.out.size)) (Nat.le_trans HBW.out.size HBL.out.size) _⟩
end Go.Proofs.Ytcicfijpfhbcaaa
