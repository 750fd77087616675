/-
  The reference's Set.
-/
/-
  Set and the reference's Set make the same tree.
-/
import Derived.Test.YtcicfijpfhbcaaaSe
import Derived.Test.YtcicfijpfhbcaaaEs
namespace Go.Proofs.Ytcicfijpfhbcaaa
set_option linter.unusedSimpArgs false
set_option linter.unusedVariables false
set_option linter.unusedSectionVars false
open Go.RowKit

theorem drop_take_succ {l : List E3} {k m : Nat} {e : E3} (h : l[k + m]? = some e) : (l.drop k).take (m + 1) = (l.drop k).take m ++ [e] := by
  rw [List.take_add_one, List.getElem?_drop, h]; rfl
/-- What the reference's Set and mark leave. -/
def RefPost (l : List E3) (bad : Int) (w : World) (e : Ending) (w' : World) : Prop :=
  (bad ≠ 0 ∧ TreePost (0, zeroN, bad) w e w') ∨ (bad = 0 ∧ ∃ (h : Nat) (x : RN), TreePost ((h : Int), x, 0) w e w' ∧
    ((l = [] ∧ h = 0 ∧ x = zeroN) ∨ ∃ (m : Nat) (z : E3), h = m + 1 ∧ m ≤ 9 ∧ l.getLast? = some z ∧ z.1 < 8 ^ (m + 1) ∧ (m = 0 ∨ 8 ^ m ≤ z.1) ∧ x = nodeP m l 0))

set_option maxRecDepth 100000 in
set_option maxHeartbeats 1000000 in
theorem r_Set_no (cs : Array Value) (ht : Int) (x : RN) (i v : Int) (w : World) (h : RdVals w cs 12 (encR ht x)) (l : List E3) (hno : idxP ht x i ≠ 0) :
    Calls Try.prog 25 #[.agg cs, .int .i64 i, .int .i64 v] w (RefPost l (idxP ht x i) w) := by
  obtain ⟨A, cap, rfl, hk⟩ := rdR_open h
  have HR := Lib.hid h
  have HNO := Lib.hid hno
  have hb : (idxP ht x i != 0) = true := by simp [hno]
  clear h hk hno
  go_enter Try.func25, Try.ntmps25
  go_wp2_with (go_at_call 77; refine (r_index _ ht x i _ ?_).mono ?_; exact HR.out.keep (below_keeps (by (repeat' (first | (with_reducible exact Below.refl _ _) | (with_reducible assumption) | (with_reducible refine below_plus ?_ ?_ _) | (with_reducible refine Below.alloc ?_ ?_ _) | (with_reducible refine Below.drew ?_) | (with_reducible refine below_drewN ?_ _) | (with_reducible refine Below.setCell ?_ ?_ _) | (first | omega | (simp only [World.size_alloc, size_plus, World.size_drew, World.size_setCell] <;> omega) | (simp <;> omega)) | omega | (simp; omega))))); rintro e w' ⟨rfl, hb⟩; (first | (obtain ⟨X, rfl⟩ := plus_again hb) | (obtain ⟨X, rfl⟩ := plus_of_below hb)); clear hb)
  refine bodyPost_ret (v := _) (results_tree Try.results25 _ _ (w.heap.size + 1) 0 zeroN (.slice none 0 0) _ rfl ?_ rfl) rfl (.inl ⟨HNO.out, _, rfl, OwnK.none_ rfl, by (repeat' (first | (with_reducible exact Below.refl _ _) | (with_reducible assumption) | (with_reducible refine below_plus ?_ ?_ _) | (with_reducible refine Below.alloc ?_ ?_ _) | (with_reducible refine Below.drew ?_) | (with_reducible refine below_drewN ?_ _) | (with_reducible refine Below.setCell ?_ ?_ _) | (first | omega | (simp only [World.size_alloc, size_plus, World.size_drew, World.size_setCell] <;> omega) | (simp <;> omega)) | omega | (simp; omega)))⟩)
  (repeat' (first | (refine heap_alloc_here _ _ _ ?_; (first | omega | (simp only [World.size_alloc, size_plus, World.size_drew, World.size_setCell] <;> omega) | (simp <;> omega))) | (refine (heap_alloc_old _ _ _ ?_).trans ?_; (first | omega | (simp only [World.size_alloc, size_plus, World.size_drew, World.size_setCell] <;> omega) | (simp <;> omega))) | (refine (heap_plus _ _ _ ?_).trans ?_; (first | omega | (simp only [World.size_alloc, size_plus, World.size_drew, World.size_setCell] <;> omega) | (simp <;> omega))) | rfl))

set_option maxRecDepth 100000 in
set_option maxHeartbeats 1000000 in
theorem r_Set_yes (cs : Array Value) (ht : Int) (x : RN) (i v : Int) (w : World) (h : RdVals w cs 12 (encR ht x)) (h0 : idxP ht x i = 0) (hin : InE (setL (entT ht x) i v) 0 (8 ^ 9)) (hasc : (setL (entT ht x) i v).Pairwise fun a b => a.1 < b.1) :
    Calls Try.prog 25 #[.agg cs, .int .i64 i, .int .i64 v] w (RefPost (setL (entT ht x) i v) 0 w) := by
  obtain ⟨A, cap, rfl, hk⟩ := rdR_open h
  have HR := Lib.hid h
  have hlen := entT_len ht x
  have HE : Hid (∀ cs W, RdVals W cs 12 (encR ht x) → Calls Try.prog 78 #[.agg cs] W (EntPost (entT ht x) W)) := fun cs W hr => r_Entries cs ht x W hr
  have HIX : Hid (∀ cs W, RdVals W cs 12 (encR ht x) → Calls Try.prog 77 #[.agg cs, .int .i64 i] W fun e w' => e = .returned (.int .i64 0) ∧ Below W.heap.size W w') := fun cs W hr => by
    have := r_index cs ht x i W hr
    rw [h0] at this; exact this
  have HBU : Hid (∀ v' base W, OwnE W base (setL (entT ht x) i v) v' → Calls Try.prog 80 #[v'] W (BuildPost (setL (entT ht x) i v) W)) := fun v' base W ho => r_Build v' _ base W ho hin hasc
  have hset : Hid (setL (entT ht x) i v = match hitE (entT ht x) i with
    | some e => (entT ht x).take (atP (entT ht x) i) ++ ((if v = 0 then [] else [(i, v, e.2.2)]) ++ (entT ht x).drop (atP (entT ht x) i + 1))
    | none => (entT ht x).take (atP (entT ht x) i) ++ ((if v = 0 then [] else [(i, v, 0)]) ++ (entT ht x).drop (atP (entT ht x) i))) := rfl
  clear h hk h0 hin hasc
  generalize setL (entT ht x) i v = lo at *
  generalize entT ht x = l at *
  have hat := atP_le l i
  have hmax : (l.length : Int) ≤ 1073741824 := by omega
  have HRA : Hid (∀ v base W, OwnE W base l v → Calls Try.prog 79 #[v, .int .i64 i] W fun e w' => e = .returned (.int .i64 (atP l i : Int)) ∧ W = w') := fun v base W ho => r_at v l i base W ho
  have HHS : Hid (∀ e, l[atP l i]? = some e → e.1 = i → hitE l i = some e) := fun e h1 h2 => hit_some h1 h2
  have HHM : Hid (∀ e, l[atP l i]? = some e → ¬ e.1 = i → hitE l i = none) := fun e h1 h2 => hit_miss h1 h2
  have HHE : Hid (l[atP l i]? = none → hitE l i = none) := fun h1 => hit_end h1
  generalize hitE l i = hh at *
  generalize atP l i = p at *
  have hpl : (p : Int) ≤ (l.length : Int) := by omega
  go_enter Try.func25, Try.ntmps25
  go_wp2_with (first
    | (go_at_call 77; refine (HIX.out _ _ ?_).mono ?_; exact HR.out.keep (below_keeps (by (repeat' (first | (with_reducible exact Below.refl _ _) | (with_reducible assumption) | (with_reducible refine below_plus ?_ ?_ _) | (with_reducible refine Below.alloc ?_ ?_ _) | (with_reducible refine Below.drew ?_) | (with_reducible refine below_drewN ?_ _) | (with_reducible refine Below.setCell ?_ ?_ _) | (first | omega | (simp only [World.size_alloc, size_plus, World.size_drew, World.size_setCell] <;> omega) | (simp <;> omega)) | omega | (simp; omega))))); rintro e w' ⟨rfl, hb⟩; (first | (obtain ⟨X, rfl⟩ := plus_again hb) | (obtain ⟨X, rfl⟩ := plus_of_below hb)); clear hb)
    | (go_at_call 78; refine (HE.out _ _ ?_).mono ?_; exact HR.out.keep (below_keeps (by (repeat' (first | (with_reducible exact Below.refl _ _) | (with_reducible assumption) | (with_reducible refine below_plus ?_ ?_ _) | (with_reducible refine Below.alloc ?_ ?_ _) | (with_reducible refine Below.drew ?_) | (with_reducible refine below_drewN ?_ _) | (with_reducible refine Below.setCell ?_ ?_ _) | (first | omega | (simp only [World.size_alloc, size_plus, World.size_drew, World.size_setCell] <;> omega) | (simp <;> omega)) | omega | (simp; omega))))); rintro e W ⟨v0, rfl, ho, hb⟩; (obtain ⟨A1, cap1, rfl, hc1, hc2⟩ := ho.slice); have HO := Lib.hid ho; have HB0 := Lib.hid hb; clear ho hb)
    | (go_at_call 79; refine (HRA.out _ _ _ HO.out).mono ?_; rintro e W' ⟨rfl, rfl⟩))
  have HB : Hid (Below w.heap.size w W) := below_trans (by (repeat' (first | (with_reducible exact Below.refl _ _) | (with_reducible assumption) | (with_reducible refine below_plus ?_ ?_ _) | (with_reducible refine Below.alloc ?_ ?_ _) | (with_reducible refine Below.drew ?_) | (with_reducible refine below_drewN ?_ _) | (with_reducible refine Below.setCell ?_ ?_ _) | (first | omega | (simp only [World.size_alloc, size_plus, World.size_drew, World.size_setCell] <;> omega) | (simp <;> omega)) | omega | (simp; omega)))) (HB0.out.mono (by (first | omega | (simp only [World.size_alloc, size_plus, World.size_drew, World.size_setCell] <;> omega) | (simp <;> omega))))
  have HRES : Hid (W.heap[w.heap.size + 1]? = some (.cells (cellsR 0 zeroN (.slice none 0 0)) 28 (0, 0))) := (HB0.out.block (w.heap.size + 1) (by (first | omega | (simp only [World.size_alloc, size_plus, World.size_drew, World.size_setCell] <;> omega) | (simp <;> omega)))).trans (by (repeat' (first | (refine heap_alloc_here _ _ _ ?_; (first | omega | (simp only [World.size_alloc, size_plus, World.size_drew, World.size_setCell] <;> omega) | (simp <;> omega))) | (refine (heap_alloc_old _ _ _ ?_).trans ?_; (first | omega | (simp only [World.size_alloc, size_plus, World.size_drew, World.size_setCell] <;> omega) | (simp <;> omega))) | (refine (heap_plus _ _ _ ?_).trans ?_; (first | omega | (simp only [World.size_alloc, size_plus, World.size_drew, World.size_setCell] <;> omega) | (simp <;> omega))) | rfl)))
  clear HB0 HIX HE
  go_loopw [11, 12] (fun o j wz => ∃ n : Nat, n ≤ p ∧ j = .int .i64 n ∧ OwnE wz W.heap.size (l.take n) o ∧ Below W.heap.size W wz) (fun _ j _ => l.length - (intOf j).toNat)
  case atStart => exact ⟨0, by omega, rfl, OwnE.nil _ _, Below.refl _ _⟩
  case round =>
    obtain ⟨n, hn, rfl, hown, hbl⟩ := hrel
    rcases Nat.lt_or_ge n p with hlt | hge
    · have hnl : n < l.length := by omega
      have hg : l[n]? = some l[n] := List.getElem?_eq_getElem hnl
      obtain ⟨g, cap', hs, -, hgw, c0, c1, c2⟩ := (HO.out.below hbl).at hg
      injection hs with e1 e2 e3
      subst e1 e3
      have hst : Hid (l.take (n + 1) = l.take n ++ [l[n]]) := by unfold Hid; rw [List.take_add_one, hg]; rfl
      have HOWN := Lib.hid hown
      have HBL := Lib.hid hbl
      have hsz := hbl.size
      have hll : (l.take n).length ≤ 1073741824 := by rw [List.length_take]; omega
      have hnp : (n : Int) < (p : Int) := by omega
      clear e2 hown hbl hg
      generalize l[n] = e at *
      go_wp2_with ((with_reducible refine wpList_appendE' ?_ (.tmp 32) (.tmp 37) ?_ _ _ _ ?_ HOWN.out e _ ?_ hsz hll ?_); rfl; (with_reducible rfl); rfl; rfl; (intro v' w' hap); have HA := Lib.hid hap; clear hap)
      exact ⟨⟨n + 1, by omega, by go_num, by rw [hst.out]; exact HA.out.own, HBL.out.trans HA.out.below⟩, by simp [intOf]; omega⟩
    · obtain rfl : n = p := by omega
      have hnn : ¬ (n : Int) < (n : Int) := by omega
      have HOWN := Lib.hid hown
      have HBL := Lib.hid hbl
      have hsz := hbl.size
      have hll : (l.take n).length ≤ 1073741824 := by rw [List.length_take]; omega
      clear hown hbl hge
      rcases Nat.lt_or_ge n l.length with hlt | hend
      · have hg : l[n]? = some l[n] := List.getElem?_eq_getElem hlt
        obtain ⟨g, cap', hs, -, hgw, c0, c1, c2⟩ := (HO.out.below HBL.out).at hg
        injection hs with e1 e2 e3
        subst e1 e3
        have hnl : (n : Int) < (l.length : Int) := by omega
        clear e2
        have HHS' := Lib.hid (HHS.out _ hg)
        have HHM' := Lib.hid (HHM.out _ hg)
        clear hg
        generalize l[n] = e at *
        by_cases hi : e.1 = i
        · have HHH := Lib.hid (HHS'.out hi)
          have hib : (e.1 == i) = true := by simp [hi]
          clear hi
          by_cases hv : v = 0
          · subst hv
            have HLO : Hid (lo = l.take n ++ [] ++ l.drop (n + 1)) := by
              unfold Hid
              rw [hset.out, HHH.out]
              dsimp only
              rw [if_pos rfl, List.append_assoc]
            go_wp2_with fail
            go_loopw [11, 14] (fun o j wz => ∃ m : Nat, n + 1 + m ≤ l.length ∧ j = .int .i64 ((n + 1 + m : Nat) : Int) ∧ OwnE wz W.heap.size (l.take n ++ [] ++ (l.drop (n + 1)).take m) o ∧ Below W.heap.size W wz) (fun _ j _ => l.length - (intOf j).toNat)
            case atStart => exact ⟨0, by omega, by rfl, by simpa using HOWN.out, HBL.out⟩
            case round =>
              obtain ⟨m, hm, rfl, hown, hbl⟩ := hrel
              rcases Nat.lt_or_ge (n + 1 + m) l.length with hlm | hgm
              · have hg : l[n + 1 + m]? = some l[n + 1 + m] := List.getElem?_eq_getElem hlm
                obtain ⟨g2, cap2, hs, -, hgw2, d0, d1, d2⟩ := (HO.out.below hbl).at hg
                injection hs with e1 e2 e3
                first
                  | subst e1
                  | (have e1' : g = g2 := by simpa using e1
                     subst e1')
                subst e3
                have hst := Lib.hid (drop_take_succ hg)
                have HOWN := Lib.hid hown
                have HBL := Lib.hid hbl
                have hsz := hbl.size
                have hll2 : (l.take n ++ [] ++ (l.drop (n + 1)).take m).length ≤ 1073741824 := by simp only [List.length_append, List.length_take, List.length_drop, List.length_nil, List.length_cons]; omega
                obtain ⟨q, hq⟩ : ∃ q, n + 1 + m = q := ⟨_, rfl⟩
                have hq1 : n + 1 + (m + 1) = q + 1 := by omega
                have HQ1 := Lib.hid hq1
                clear e2 hown hbl hg hq1
                generalize l[n + 1 + m] = en at *
                rw [hq] at d0 d1 d2 hlm ⊢
                have hql : (q : Int) < (l.length : Int) := by omega
                have HQ := Lib.hid hq
                clear hq hm
                go_wp2_with ((with_reducible refine wpList_appendE' ?_ (.tmp 75) (.tmp 80) ?_ _ _ _ ?_ HOWN.out en _ ?_ hsz hll2 ?_); rfl; (with_reducible rfl); rfl; rfl; (intro v' w' hap); have HA := Lib.hid hap; clear hap)
                exact ⟨⟨m + 1, by rw [HQ1.out]; omega, by rw [HQ1.out]; go_num, by rw [hst.out, ← List.append_assoc]; exact HA.out.own, HBL.out.trans HA.out.below⟩, by simp [intOf]; omega⟩
              · obtain ⟨q, hq⟩ : ∃ q, n + 1 + m = q := ⟨_, rfl⟩
                have hfull : l.take n ++ [] ++ (l.drop (n + 1)).take m = lo := by
                  have h9 : (l.drop (n + 1)).take m = l.drop (n + 1) := List.take_of_length_le (by rw [List.length_drop]; omega)
                  rw [HLO.out, h9]
                rw [hfull] at hown
                rw [hq] at hgm ⊢
                obtain rfl : q = l.length := by omega
                have HOWN := Lib.hid hown
                have HBL := Lib.hid hbl
                clear hown hbl hfull hq
                go_wp2_with (first
                  | (go_at_call 80; refine (HBU.out _ _ _ HOWN.out).mono ?_; rintro e W1 ⟨h1, x1, s1, rfl, ho, hb, hfacts⟩; (obtain ⟨A9, cap9, rfl, -⟩ := ho.slice); have HO1 := Lib.hid ho; have HB1 := Lib.hid hb; have HFA := Lib.hid hfacts; clear ho hb hfacts)
                  | ((with_reducible refine wpList_storeR (.tmp 6) (.tmp 83) ?_ ?_ (w.heap.size + 1) ?_ (h1 : Int) x1 A9 x1.n cap9 ?_ (cellsR 0 zeroN (.slice none 0 0)) 28 ?_ rfl ?_); (with_reducible rfl); rfl; rfl; rfl; (exact (HB1.out.block _ (Nat.lt_of_lt_of_le (lt_of_heap HRES.out) HBL.out.size)).trans ((HBL.out.block _ (lt_of_heap HRES.out)).trans HRES.out))))
                have hres : W1.heap[w.heap.size + 1]? = some (.cells (cellsR 0 zeroN (.slice none 0 0)) 28 (0, 0)) := (HB1.out.block _ (Nat.lt_of_lt_of_le (lt_of_heap HRES.out) HBL.out.size)).trans ((HBL.out.block _ (lt_of_heap HRES.out)).trans HRES.out)
                refine bodyPost_ret (v := _) (results_tree Try.results25 _ _ (w.heap.size + 1) h1 x1 (.slice A9 x1.n cap9) _ rfl (setRow_heap W1 _ _ _ _ _ hres) rfl) rfl (.inr ⟨rfl, h1, x1, ⟨_, rfl, ?_, ?_⟩, HFA.out⟩)
                · have hlt1 := Nat.lt_of_lt_of_le (lt_of_heap HRES.out) HBL.out.size
                  have hsw := HB.out.size
                  have hsW := HBL.out.size
                  exact (OwnK.frame x1 HO1.out fun b hb _ => setRow_other W1 _ b _ (by omega)).mono fun b hb => by show w.heap.size ≤ b; omega
                · exact below_setRow (HB.out.trans ((HBL.out.mono HB.out.size).trans (HB1.out.mono (Nat.le_trans HB.out.size HBL.out.size)))) (by omega) _
          · have HLO : Hid (lo = l.take n ++ [(i, v, e.2.2)] ++ l.drop (n + 1)) := by
              unfold Hid
              rw [hset.out, HHH.out]
              dsimp only
              rw [if_neg hv, List.append_assoc]
            have hvb : (v != 0) = true := by simp [hv]
            go_wp2_with ((with_reducible refine wpList_appendE' ?_ (.tmp 61) (.tmp 66) ?_ _ _ _ ?_ HOWN.out (i, v, e.2.2) _ ?_ hsz hll ?_); rfl; (with_reducible rfl); rfl; rfl; (intro v' w' hap); have HOWN := Lib.hid hap.own; have HBL := Lib.hid (HBL.out.trans hap.below); have hsz := HBL.out.size; clear hap)
            go_loopw [11, 14] (fun o j wz => ∃ m : Nat, n + 1 + m ≤ l.length ∧ j = .int .i64 ((n + 1 + m : Nat) : Int) ∧ OwnE wz W.heap.size (l.take n ++ [(i, v, e.2.2)] ++ (l.drop (n + 1)).take m) o ∧ Below W.heap.size W wz) (fun _ j _ => l.length - (intOf j).toNat)
            case atStart => exact ⟨0, by omega, by rfl, by simpa using HOWN.out, HBL.out⟩
            case round =>
              obtain ⟨m, hm, rfl, hown, hbl⟩ := hrel
              rcases Nat.lt_or_ge (n + 1 + m) l.length with hlm | hgm
              · have hg : l[n + 1 + m]? = some l[n + 1 + m] := List.getElem?_eq_getElem hlm
                obtain ⟨g2, cap2, hs, -, hgw2, d0, d1, d2⟩ := (HO.out.below hbl).at hg
                injection hs with e1 e2 e3
                first
                  | subst e1
                  | (have e1' : g = g2 := by simpa using e1
                     subst e1')
                subst e3
                have hst := Lib.hid (drop_take_succ hg)
                have HOWN := Lib.hid hown
                have HBL := Lib.hid hbl
                have hsz := hbl.size
                have hll2 : (l.take n ++ [(i, v, e.2.2)] ++ (l.drop (n + 1)).take m).length ≤ 1073741824 := by simp only [List.length_append, List.length_take, List.length_drop, List.length_nil, List.length_cons]; omega
                obtain ⟨q, hq⟩ : ∃ q, n + 1 + m = q := ⟨_, rfl⟩
                have hq1 : n + 1 + (m + 1) = q + 1 := by omega
                have HQ1 := Lib.hid hq1
                clear e2 hown hbl hg hq1
                generalize l[n + 1 + m] = en at *
                rw [hq] at d0 d1 d2 hlm ⊢
                have hql : (q : Int) < (l.length : Int) := by omega
                have HQ := Lib.hid hq
                clear hq hm
                go_wp2_with ((with_reducible refine wpList_appendE' ?_ (.tmp 75) (.tmp 80) ?_ _ _ _ ?_ HOWN.out en _ ?_ hsz hll2 ?_); rfl; (with_reducible rfl); rfl; rfl; (intro v' w' hap); have HA := Lib.hid hap; clear hap)
                exact ⟨⟨m + 1, by rw [HQ1.out]; omega, by rw [HQ1.out]; go_num, by rw [hst.out, ← List.append_assoc]; exact HA.out.own, HBL.out.trans HA.out.below⟩, by simp [intOf]; omega⟩
              · obtain ⟨q, hq⟩ : ∃ q, n + 1 + m = q := ⟨_, rfl⟩
                have hfull : l.take n ++ [(i, v, e.2.2)] ++ (l.drop (n + 1)).take m = lo := by
                  have h9 : (l.drop (n + 1)).take m = l.drop (n + 1) := List.take_of_length_le (by rw [List.length_drop]; omega)
                  rw [HLO.out, h9]
                rw [hfull] at hown
                rw [hq] at hgm ⊢
                obtain rfl : q = l.length := by omega
                have HOWN := Lib.hid hown
                have HBL := Lib.hid hbl
                clear hown hbl hfull hq
                go_wp2_with (first
                  | (go_at_call 80; refine (HBU.out _ _ _ HOWN.out).mono ?_; rintro e W1 ⟨h1, x1, s1, rfl, ho, hb, hfacts⟩; (obtain ⟨A9, cap9, rfl, -⟩ := ho.slice); have HO1 := Lib.hid ho; have HB1 := Lib.hid hb; have HFA := Lib.hid hfacts; clear ho hb hfacts)
                  | ((with_reducible refine wpList_storeR (.tmp 6) (.tmp 83) ?_ ?_ (w.heap.size + 1) ?_ (h1 : Int) x1 A9 x1.n cap9 ?_ (cellsR 0 zeroN (.slice none 0 0)) 28 ?_ rfl ?_); (with_reducible rfl); rfl; rfl; rfl; (exact (HB1.out.block _ (Nat.lt_of_lt_of_le (lt_of_heap HRES.out) HBL.out.size)).trans ((HBL.out.block _ (lt_of_heap HRES.out)).trans HRES.out))))
                have hres : W1.heap[w.heap.size + 1]? = some (.cells (cellsR 0 zeroN (.slice none 0 0)) 28 (0, 0)) := (HB1.out.block _ (Nat.lt_of_lt_of_le (lt_of_heap HRES.out) HBL.out.size)).trans ((HBL.out.block _ (lt_of_heap HRES.out)).trans HRES.out)
                refine bodyPost_ret (v := _) (results_tree Try.results25 _ _ (w.heap.size + 1) h1 x1 (.slice A9 x1.n cap9) _ rfl (setRow_heap W1 _ _ _ _ _ hres) rfl) rfl (.inr ⟨rfl, h1, x1, ⟨_, rfl, ?_, ?_⟩, HFA.out⟩)
                · have hlt1 := Nat.lt_of_lt_of_le (lt_of_heap HRES.out) HBL.out.size
                  have hsw := HB.out.size
                  have hsW := HBL.out.size
                  exact (OwnK.frame x1 HO1.out fun b hb _ => setRow_other W1 _ b _ (by omega)).mono fun b hb => by show w.heap.size ≤ b; omega
                · exact below_setRow (HB.out.trans ((HBL.out.mono HB.out.size).trans (HB1.out.mono (Nat.le_trans HB.out.size HBL.out.size)))) (by omega) _
        · have HHH := Lib.hid (HHM'.out hi)
          have hib : (e.1 == i) = false := by simp [hi]
          clear hi
          by_cases hv : v = 0
          · subst hv
            have HLO : Hid (lo = l.take n ++ [] ++ l.drop (n)) := by
              unfold Hid
              rw [hset.out, HHH.out]
              dsimp only
              rw [if_pos rfl, List.append_assoc]
            go_wp2_with fail
            go_loopw [11, 14] (fun o j wz => ∃ m : Nat, n + m ≤ l.length ∧ j = .int .i64 ((n + m : Nat) : Int) ∧ OwnE wz W.heap.size (l.take n ++ [] ++ (l.drop (n)).take m) o ∧ Below W.heap.size W wz) (fun _ j _ => l.length - (intOf j).toNat)
            case atStart => exact ⟨0, by omega, by rfl, by simpa using HOWN.out, HBL.out⟩
            case round =>
              obtain ⟨m, hm, rfl, hown, hbl⟩ := hrel
              rcases Nat.lt_or_ge (n + m) l.length with hlm | hgm
              · have hg : l[n + m]? = some l[n + m] := List.getElem?_eq_getElem hlm
                obtain ⟨g2, cap2, hs, -, hgw2, d0, d1, d2⟩ := (HO.out.below hbl).at hg
                injection hs with e1 e2 e3
                first
                  | subst e1
                  | (have e1' : g = g2 := by simpa using e1
                     subst e1')
                subst e3
                have hst := Lib.hid (drop_take_succ hg)
                have HOWN := Lib.hid hown
                have HBL := Lib.hid hbl
                have hsz := hbl.size
                have hll2 : (l.take n ++ [] ++ (l.drop (n)).take m).length ≤ 1073741824 := by simp only [List.length_append, List.length_take, List.length_drop, List.length_nil, List.length_cons]; omega
                obtain ⟨q, hq⟩ : ∃ q, n + m = q := ⟨_, rfl⟩
                have hq1 : n + (m + 1) = q + 1 := by omega
                have HQ1 := Lib.hid hq1
                clear e2 hown hbl hg hq1
                generalize l[n + m] = en at *
                rw [hq] at d0 d1 d2 hlm ⊢
                have hql : (q : Int) < (l.length : Int) := by omega
                have HQ := Lib.hid hq
                clear hq hm
                go_wp2_with ((with_reducible refine wpList_appendE' ?_ (.tmp 75) (.tmp 80) ?_ _ _ _ ?_ HOWN.out en _ ?_ hsz hll2 ?_); rfl; (with_reducible rfl); rfl; rfl; (intro v' w' hap); have HA := Lib.hid hap; clear hap)
                exact ⟨⟨m + 1, by rw [HQ1.out]; omega, by rw [HQ1.out]; go_num, by rw [hst.out, ← List.append_assoc]; exact HA.out.own, HBL.out.trans HA.out.below⟩, by simp [intOf]; omega⟩
              · obtain ⟨q, hq⟩ : ∃ q, n + m = q := ⟨_, rfl⟩
                have hfull : l.take n ++ [] ++ (l.drop (n)).take m = lo := by
                  have h9 : (l.drop (n)).take m = l.drop (n) := List.take_of_length_le (by rw [List.length_drop]; omega)
                  rw [HLO.out, h9]
                rw [hfull] at hown
                rw [hq] at hgm ⊢
                obtain rfl : q = l.length := by omega
                have HOWN := Lib.hid hown
                have HBL := Lib.hid hbl
                clear hown hbl hfull hq
                go_wp2_with (first
                  | (go_at_call 80; refine (HBU.out _ _ _ HOWN.out).mono ?_; rintro e W1 ⟨h1, x1, s1, rfl, ho, hb, hfacts⟩; (obtain ⟨A9, cap9, rfl, -⟩ := ho.slice); have HO1 := Lib.hid ho; have HB1 := Lib.hid hb; have HFA := Lib.hid hfacts; clear ho hb hfacts)
                  | ((with_reducible refine wpList_storeR (.tmp 6) (.tmp 83) ?_ ?_ (w.heap.size + 1) ?_ (h1 : Int) x1 A9 x1.n cap9 ?_ (cellsR 0 zeroN (.slice none 0 0)) 28 ?_ rfl ?_); (with_reducible rfl); rfl; rfl; rfl; (exact (HB1.out.block _ (Nat.lt_of_lt_of_le (lt_of_heap HRES.out) HBL.out.size)).trans ((HBL.out.block _ (lt_of_heap HRES.out)).trans HRES.out))))
                have hres : W1.heap[w.heap.size + 1]? = some (.cells (cellsR 0 zeroN (.slice none 0 0)) 28 (0, 0)) := (HB1.out.block _ (Nat.lt_of_lt_of_le (lt_of_heap HRES.out) HBL.out.size)).trans ((HBL.out.block _ (lt_of_heap HRES.out)).trans HRES.out)
                refine bodyPost_ret (v := _) (results_tree Try.results25 _ _ (w.heap.size + 1) h1 x1 (.slice A9 x1.n cap9) _ rfl (setRow_heap W1 _ _ _ _ _ hres) rfl) rfl (.inr ⟨rfl, h1, x1, ⟨_, rfl, ?_, ?_⟩, HFA.out⟩)
                · have hlt1 := Nat.lt_of_lt_of_le (lt_of_heap HRES.out) HBL.out.size
                  have hsw := HB.out.size
                  have hsW := HBL.out.size
                  exact (OwnK.frame x1 HO1.out fun b hb _ => setRow_other W1 _ b _ (by omega)).mono fun b hb => by show w.heap.size ≤ b; omega
                · exact below_setRow (HB.out.trans ((HBL.out.mono HB.out.size).trans (HB1.out.mono (Nat.le_trans HB.out.size HBL.out.size)))) (by omega) _
          · have HLO : Hid (lo = l.take n ++ [(i, v, 0)] ++ l.drop (n)) := by
              unfold Hid
              rw [hset.out, HHH.out]
              dsimp only
              rw [if_neg hv, List.append_assoc]
            have hvb : (v != 0) = true := by simp [hv]
            go_wp2_with ((with_reducible refine wpList_appendE' ?_ (.tmp 61) (.tmp 66) ?_ _ _ _ ?_ HOWN.out (i, v, 0) _ ?_ hsz hll ?_); rfl; (with_reducible rfl); rfl; rfl; (intro v' w' hap); have HOWN := Lib.hid hap.own; have HBL := Lib.hid (HBL.out.trans hap.below); have hsz := HBL.out.size; clear hap)
            go_loopw [11, 14] (fun o j wz => ∃ m : Nat, n + m ≤ l.length ∧ j = .int .i64 ((n + m : Nat) : Int) ∧ OwnE wz W.heap.size (l.take n ++ [(i, v, 0)] ++ (l.drop (n)).take m) o ∧ Below W.heap.size W wz) (fun _ j _ => l.length - (intOf j).toNat)
            case atStart => exact ⟨0, by omega, by rfl, by simpa using HOWN.out, HBL.out⟩
            case round =>
              obtain ⟨m, hm, rfl, hown, hbl⟩ := hrel
              rcases Nat.lt_or_ge (n + m) l.length with hlm | hgm
              · have hg : l[n + m]? = some l[n + m] := List.getElem?_eq_getElem hlm
                obtain ⟨g2, cap2, hs, -, hgw2, d0, d1, d2⟩ := (HO.out.below hbl).at hg
                injection hs with e1 e2 e3
                first
                  | subst e1
                  | (have e1' : g = g2 := by simpa using e1
                     subst e1')
                subst e3
                have hst := Lib.hid (drop_take_succ hg)
                have HOWN := Lib.hid hown
                have HBL := Lib.hid hbl
                have hsz := hbl.size
                have hll2 : (l.take n ++ [(i, v, 0)] ++ (l.drop (n)).take m).length ≤ 1073741824 := by simp only [List.length_append, List.length_take, List.length_drop, List.length_nil, List.length_cons]; omega
                obtain ⟨q, hq⟩ : ∃ q, n + m = q := ⟨_, rfl⟩
                have hq1 : n + (m + 1) = q + 1 := by omega
                have HQ1 := Lib.hid hq1
                clear e2 hown hbl hg hq1
                generalize l[n + m] = en at *
                rw [hq] at d0 d1 d2 hlm ⊢
                have hql : (q : Int) < (l.length : Int) := by omega
                have HQ := Lib.hid hq
                clear hq hm
                go_wp2_with ((with_reducible refine wpList_appendE' ?_ (.tmp 75) (.tmp 80) ?_ _ _ _ ?_ HOWN.out en _ ?_ hsz hll2 ?_); rfl; (with_reducible rfl); rfl; rfl; (intro v' w' hap); have HA := Lib.hid hap; clear hap)
                exact ⟨⟨m + 1, by rw [HQ1.out]; omega, by rw [HQ1.out]; go_num, by rw [hst.out, ← List.append_assoc]; exact HA.out.own, HBL.out.trans HA.out.below⟩, by simp [intOf]; omega⟩
              · obtain ⟨q, hq⟩ : ∃ q, n + m = q := ⟨_, rfl⟩
                have hfull : l.take n ++ [(i, v, 0)] ++ (l.drop (n)).take m = lo := by
                  have h9 : (l.drop (n)).take m = l.drop (n) := List.take_of_length_le (by rw [List.length_drop]; omega)
                  rw [HLO.out, h9]
                rw [hfull] at hown
                rw [hq] at hgm ⊢
                obtain rfl : q = l.length := by omega
                have HOWN := Lib.hid hown
                have HBL := Lib.hid hbl
                clear hown hbl hfull hq
                go_wp2_with (first
                  | (go_at_call 80; refine (HBU.out _ _ _ HOWN.out).mono ?_; rintro e W1 ⟨h1, x1, s1, rfl, ho, hb, hfacts⟩; (obtain ⟨A9, cap9, rfl, -⟩ := ho.slice); have HO1 := Lib.hid ho; have HB1 := Lib.hid hb; have HFA := Lib.hid hfacts; clear ho hb hfacts)
                  | ((with_reducible refine wpList_storeR (.tmp 6) (.tmp 83) ?_ ?_ (w.heap.size + 1) ?_ (h1 : Int) x1 A9 x1.n cap9 ?_ (cellsR 0 zeroN (.slice none 0 0)) 28 ?_ rfl ?_); (with_reducible rfl); rfl; rfl; rfl; (exact (HB1.out.block _ (Nat.lt_of_lt_of_le (lt_of_heap HRES.out) HBL.out.size)).trans ((HBL.out.block _ (lt_of_heap HRES.out)).trans HRES.out))))
                have hres : W1.heap[w.heap.size + 1]? = some (.cells (cellsR 0 zeroN (.slice none 0 0)) 28 (0, 0)) := (HB1.out.block _ (Nat.lt_of_lt_of_le (lt_of_heap HRES.out) HBL.out.size)).trans ((HBL.out.block _ (lt_of_heap HRES.out)).trans HRES.out)
                refine bodyPost_ret (v := _) (results_tree Try.results25 _ _ (w.heap.size + 1) h1 x1 (.slice A9 x1.n cap9) _ rfl (setRow_heap W1 _ _ _ _ _ hres) rfl) rfl (.inr ⟨rfl, h1, x1, ⟨_, rfl, ?_, ?_⟩, HFA.out⟩)
                · have hlt1 := Nat.lt_of_lt_of_le (lt_of_heap HRES.out) HBL.out.size
                  have hsw := HB.out.size
                  have hsW := HBL.out.size
                  exact (OwnK.frame x1 HO1.out fun b hb _ => setRow_other W1 _ b _ (by omega)).mono fun b hb => by show w.heap.size ≤ b; omega
                · exact below_setRow (HB.out.trans ((HBL.out.mono HB.out.size).trans (HB1.out.mono (Nat.le_trans HB.out.size HBL.out.size)))) (by omega) _
      · have HHH := Lib.hid (HHE.out (List.getElem?_eq_none hend))
        have hnl : ¬ (n : Int) < (l.length : Int) := by omega
        by_cases hv : v = 0
        · subst hv
          have HLO : Hid (lo = l.take n ++ [] ++ l.drop (n)) := by
            unfold Hid
            rw [hset.out, HHH.out]
            dsimp only
            rw [if_pos rfl, List.append_assoc]
          go_wp2_with fail
          go_loopw [11, 14] (fun o j wz => ∃ m : Nat, n + m ≤ l.length ∧ j = .int .i64 ((n + m : Nat) : Int) ∧ OwnE wz W.heap.size (l.take n ++ [] ++ (l.drop (n)).take m) o ∧ Below W.heap.size W wz) (fun _ j _ => l.length - (intOf j).toNat)
          case atStart => exact ⟨0, by omega, by rfl, by simpa using HOWN.out, HBL.out⟩
          case round =>
            obtain ⟨m, hm, rfl, hown, hbl⟩ := hrel
            rcases Nat.lt_or_ge (n + m) l.length with hlm | hgm
            · have hg : l[n + m]? = some l[n + m] := List.getElem?_eq_getElem hlm
              obtain ⟨g2, cap2, hs, -, hgw2, d0, d1, d2⟩ := (HO.out.below hbl).at hg
              injection hs with e1 e2 e3
              first
                | subst e1
                | (have e1' : g = g2 := by simpa using e1
                   subst e1')
              subst e3
              have hst := Lib.hid (drop_take_succ hg)
              have HOWN := Lib.hid hown
              have HBL := Lib.hid hbl
              have hsz := hbl.size
              have hll2 : (l.take n ++ [] ++ (l.drop (n)).take m).length ≤ 1073741824 := by simp only [List.length_append, List.length_take, List.length_drop, List.length_nil, List.length_cons]; omega
              obtain ⟨q, hq⟩ : ∃ q, n + m = q := ⟨_, rfl⟩
              have hq1 : n + (m + 1) = q + 1 := by omega
              have HQ1 := Lib.hid hq1
              clear e2 hown hbl hg hq1
              generalize l[n + m] = en at *
              rw [hq] at d0 d1 d2 hlm ⊢
              have hql : (q : Int) < (l.length : Int) := by omega
              have HQ := Lib.hid hq
              clear hq hm
              go_wp2_with ((with_reducible refine wpList_appendE' ?_ (.tmp 75) (.tmp 80) ?_ _ _ _ ?_ HOWN.out en _ ?_ hsz hll2 ?_); rfl; (with_reducible rfl); rfl; rfl; (intro v' w' hap); have HA := Lib.hid hap; clear hap)
              exact ⟨⟨m + 1, by rw [HQ1.out]; omega, by rw [HQ1.out]; go_num, by rw [hst.out, ← List.append_assoc]; exact HA.out.own, HBL.out.trans HA.out.below⟩, by simp [intOf]; omega⟩
            · obtain ⟨q, hq⟩ : ∃ q, n + m = q := ⟨_, rfl⟩
              have hfull : l.take n ++ [] ++ (l.drop (n)).take m = lo := by
                have h9 : (l.drop (n)).take m = l.drop (n) := List.take_of_length_le (by rw [List.length_drop]; omega)
                rw [HLO.out, h9]
              rw [hfull] at hown
              rw [hq] at hgm ⊢
              obtain rfl : q = l.length := by omega
              have HOWN := Lib.hid hown
              have HBL := Lib.hid hbl
              clear hown hbl hfull hq
              go_wp2_with (first
                | (go_at_call 80; refine (HBU.out _ _ _ HOWN.out).mono ?_; rintro e W1 ⟨h1, x1, s1, rfl, ho, hb, hfacts⟩; (obtain ⟨A9, cap9, rfl, -⟩ := ho.slice); have HO1 := Lib.hid ho; have HB1 := Lib.hid hb; have HFA := Lib.hid hfacts; clear ho hb hfacts)
                | ((with_reducible refine wpList_storeR (.tmp 6) (.tmp 83) ?_ ?_ (w.heap.size + 1) ?_ (h1 : Int) x1 A9 x1.n cap9 ?_ (cellsR 0 zeroN (.slice none 0 0)) 28 ?_ rfl ?_); (with_reducible rfl); rfl; rfl; rfl; (exact (HB1.out.block _ (Nat.lt_of_lt_of_le (lt_of_heap HRES.out) HBL.out.size)).trans ((HBL.out.block _ (lt_of_heap HRES.out)).trans HRES.out))))
              have hres : W1.heap[w.heap.size + 1]? = some (.cells (cellsR 0 zeroN (.slice none 0 0)) 28 (0, 0)) := (HB1.out.block _ (Nat.lt_of_lt_of_le (lt_of_heap HRES.out) HBL.out.size)).trans ((HBL.out.block _ (lt_of_heap HRES.out)).trans HRES.out)
              refine bodyPost_ret (v := _) (results_tree Try.results25 _ _ (w.heap.size + 1) h1 x1 (.slice A9 x1.n cap9) _ rfl (setRow_heap W1 _ _ _ _ _ hres) rfl) rfl (.inr ⟨rfl, h1, x1, ⟨_, rfl, ?_, ?_⟩, HFA.out⟩)
              · have hlt1 := Nat.lt_of_lt_of_le (lt_of_heap HRES.out) HBL.out.size
                have hsw := HB.out.size
                have hsW := HBL.out.size
                exact (OwnK.frame x1 HO1.out fun b hb _ => setRow_other W1 _ b _ (by omega)).mono fun b hb => by show w.heap.size ≤ b; omega
              · exact below_setRow (HB.out.trans ((HBL.out.mono HB.out.size).trans (HB1.out.mono (Nat.le_trans HB.out.size HBL.out.size)))) (by omega) _
        · have HLO : Hid (lo = l.take n ++ [(i, v, 0)] ++ l.drop (n)) := by
            unfold Hid
            rw [hset.out, HHH.out]
            dsimp only
            rw [if_neg hv, List.append_assoc]
          have hvb : (v != 0) = true := by simp [hv]
          go_wp2_with ((with_reducible refine wpList_appendE' ?_ (.tmp 61) (.tmp 66) ?_ _ _ _ ?_ HOWN.out (i, v, 0) _ ?_ hsz hll ?_); rfl; (with_reducible rfl); rfl; rfl; (intro v' w' hap); have HOWN := Lib.hid hap.own; have HBL := Lib.hid (HBL.out.trans hap.below); have hsz := HBL.out.size; clear hap)
          go_loopw [11, 14] (fun o j wz => ∃ m : Nat, n + m ≤ l.length ∧ j = .int .i64 ((n + m : Nat) : Int) ∧ OwnE wz W.heap.size (l.take n ++ [(i, v, 0)] ++ (l.drop (n)).take m) o ∧ Below W.heap.size W wz) (fun _ j _ => l.length - (intOf j).toNat)
          case atStart => exact ⟨0, by omega, by rfl, by simpa using HOWN.out, HBL.out⟩
          case round =>
            obtain ⟨m, hm, rfl, hown, hbl⟩ := hrel
            rcases Nat.lt_or_ge (n + m) l.length with hlm | hgm
            · have hg : l[n + m]? = some l[n + m] := List.getElem?_eq_getElem hlm
              obtain ⟨g2, cap2, hs, -, hgw2, d0, d1, d2⟩ := (HO.out.below hbl).at hg
              injection hs with e1 e2 e3
              first
                | subst e1
                | (have e1' : g = g2 := by simpa using e1
                   subst e1')
              subst e3
              have hst := Lib.hid (drop_take_succ hg)
              have HOWN := Lib.hid hown
              have HBL := Lib.hid hbl
              have hsz := hbl.size
              have hll2 : (l.take n ++ [(i, v, 0)] ++ (l.drop (n)).take m).length ≤ 1073741824 := by simp only [List.length_append, List.length_take, List.length_drop, List.length_nil, List.length_cons]; omega
              obtain ⟨q, hq⟩ : ∃ q, n + m = q := ⟨_, rfl⟩
              have hq1 : n + (m + 1) = q + 1 := by omega
              have HQ1 := Lib.hid hq1
              clear e2 hown hbl hg hq1
              generalize l[n + m] = en at *
              rw [hq] at d0 d1 d2 hlm ⊢
              have hql : (q : Int) < (l.length : Int) := by omega
              have HQ := Lib.hid hq
              clear hq hm
              go_wp2_with ((with_reducible refine wpList_appendE' ?_ (.tmp 75) (.tmp 80) ?_ _ _ _ ?_ HOWN.out en _ ?_ hsz hll2 ?_); rfl; (with_reducible rfl); rfl; rfl; (intro v' w' hap); have HA := Lib.hid hap; clear hap)
              exact ⟨⟨m + 1, by rw [HQ1.out]; omega, by rw [HQ1.out]; go_num, by rw [hst.out, ← List.append_assoc]; exact HA.out.own, HBL.out.trans HA.out.below⟩, by simp [intOf]; omega⟩
            · obtain ⟨q, hq⟩ : ∃ q, n + m = q := ⟨_, rfl⟩
              have hfull : l.take n ++ [(i, v, 0)] ++ (l.drop (n)).take m = lo := by
                have h9 : (l.drop (n)).take m = l.drop (n) := List.take_of_length_le (by rw [List.length_drop]; omega)
                rw [HLO.out, h9]
              rw [hfull] at hown
              rw [hq] at hgm ⊢
              obtain rfl : q = l.length := by omega
              have HOWN := Lib.hid hown
              have HBL := Lib.hid hbl
              clear hown hbl hfull hq
              go_wp2_with (first
                | (go_at_call 80; refine (HBU.out _ _ _ HOWN.out).mono ?_; rintro e W1 ⟨h1, x1, s1, rfl, ho, hb, hfacts⟩; (obtain ⟨A9, cap9, rfl, -⟩ := ho.slice); have HO1 := Lib.hid ho; have HB1 := Lib.hid hb; have HFA := Lib.hid hfacts; clear ho hb hfacts)
                | ((with_reducible refine wpList_storeR (.tmp 6) (.tmp 83) ?_ ?_ (w.heap.size + 1) ?_ (h1 : Int) x1 A9 x1.n cap9 ?_ (cellsR 0 zeroN (.slice none 0 0)) 28 ?_ rfl ?_); (with_reducible rfl); rfl; rfl; rfl; (exact (HB1.out.block _ (Nat.lt_of_lt_of_le (lt_of_heap HRES.out) HBL.out.size)).trans ((HBL.out.block _ (lt_of_heap HRES.out)).trans HRES.out))))
              have hres : W1.heap[w.heap.size + 1]? = some (.cells (cellsR 0 zeroN (.slice none 0 0)) 28 (0, 0)) := (HB1.out.block _ (Nat.lt_of_lt_of_le (lt_of_heap HRES.out) HBL.out.size)).trans ((HBL.out.block _ (lt_of_heap HRES.out)).trans HRES.out)
              refine bodyPost_ret (v := _) (results_tree Try.results25 _ _ (w.heap.size + 1) h1 x1 (.slice A9 x1.n cap9) _ rfl (setRow_heap W1 _ _ _ _ _ hres) rfl) rfl (.inr ⟨rfl, h1, x1, ⟨_, rfl, ?_, ?_⟩, HFA.out⟩)
              · have hlt1 := Nat.lt_of_lt_of_le (lt_of_heap HRES.out) HBL.out.size
                have hsw := HB.out.size
                have hsW := HBL.out.size
                exact (OwnK.frame x1 HO1.out fun b hb _ => setRow_other W1 _ b _ (by omega)).mono fun b hb => by show w.heap.size ≤ b; omega
              · exact below_setRow (HB.out.trans ((HBL.out.mono HB.out.size).trans (HB1.out.mono (Nat.le_trans HB.out.size HBL.out.size)))) (by omega) _
end Go.Proofs.Ytcicfijpfhbcaaa
namespace Go.Proofs.Ytcicfijpfhbcaaa
set_option linter.unusedSimpArgs false
set_option linter.unusedVariables false
set_option linter.unusedSectionVars false
open Go.RowKit

theorem get_out {ht : Int} {x : RN} {i : Int} (h : checkP ht x ≠ 0 ∨ i < 0 ∨ 1073741824 ≤ i) : getP ht x i = 0 := by
  unfold getP
  cases hl : leafP ht x i with
  | none => rfl
  | some y =>
    exfalso
    have h1 := leafP_in hl
    unfold leafP at hl
    split at hl
    · rename_i hh; have := hh.1; omega
    · cases hl
theorem hit_mem {l : List E3} {i : Int} {e : E3} (h : hitE l i = some e) : e ∈ l ∧ e.1 = i := by
  unfold hitE at h
  cases hk : l[atP l i]? with
  | none => rw [hk] at h; cases h
  | some y =>
    rw [hk] at h
    dsimp only at h
    split at h
    · injection h with h; subst h
      exact ⟨List.mem_of_getElem? hk, by assumption⟩
    · cases h
theorem get_ref (ht : Int) (x : RN) (i : Int) : getP ht x i = valE (hitE (entT ht x) i) := by
  by_cases hc : checkP ht x = 0
  · have hb := check_neg hc
    obtain ⟨h, rfl⟩ : ∃ h : Nat, ht = h := ⟨ht.toNat, by omega⟩
    have hT := check_iff.1 hc
    rw [ent_ls hT]
    by_cases hi : i < 0 ∨ 1073741824 ≤ i
    · rw [get_out (.inr hi)]
      cases hh : hitE (lsE RM 0 (tl h x)) i with
      | none => rfl
      | some e =>
        have h1 := hit_mem hh
        have h2 := ls_low h1.1
        rw [RM_val] at h2
        omega
    · obtain ⟨n, rfl⟩ : ∃ n : Nat, i = n := ⟨i.toNat, by omega⟩
      have hn : n < RM := by rw [RM_val]; omega
      rw [hit_ls hn, get_tl hT (by omega)]
      split
      · rename_i h0; rw [h0]; rfl
      · rfl
  · rw [get_out (.inl hc), ent_bad hc]; rfl
theorem sameT_of {h h' : Nat} {x x' : RN} (h1 : h = h') (h2 : sameB x x' = true) : sameT h h' x x' = true := by
  unfold sameT
  rw [h1, h2]
  simp
/-- What Set leaves, and what the reference's Set leaves. -/
theorem sets_facts (ht : Int) (x : RN) (i v : Int) : ∃ (h1 : Int) (x1 : RN) (er : Int), setP ht x i v = (h1, x1, er) ∧
    (∀ cs W, RdVals W cs 12 (encR ht x) → Calls Try.prog 25 #[.agg cs, .int .i64 i, .int .i64 v] W fun e w' => ∃ (h2 : Int) (x2 : RN), TreePost (h2, x2, er) W e w' ∧ sameT h1 h2 x1 x2 = true) ∧
    (er = 0 → getP h1 x1 i = v) := by
  by_cases hbad : idxP ht x i ≠ 0
  · have hs : setP ht x i v = (0, zeroN, idxP ht x i) := by
      unfold setP idxP at *
      by_cases hc : checkP ht x ≠ 0
      · rw [if_pos hc, if_pos hc]
      · rw [if_neg hc] at hbad ⊢
        rw [if_neg hc]
        by_cases hi : i < 0 ∨ 1073741824 ≤ i
        · rw [if_pos hi, if_pos hi]
        · rw [if_neg hi] at hbad; exact absurd rfl hbad
    refine ⟨0, zeroN, idxP ht x i, hs, fun cs W hr => (r_Set_no cs ht x i v W hr [] hbad).mono fun e w' hp => ?_, fun h => absurd h hbad⟩
    rcases hp with ⟨-, hp⟩ | ⟨h0, -⟩
    · exact ⟨0, zeroN, hp, by decide⟩
    · exact absurd h0 hbad
  · have h0 : idxP ht x i = 0 := Classical.not_not.1 hbad
    have hcc : checkP ht x = 0 ∧ 0 ≤ i ∧ i < 1073741824 := by
      unfold idxP at h0
      by_cases hc : checkP ht x ≠ 0
      · rw [if_pos hc] at h0; exact absurd h0 hc
      · rw [if_neg hc] at h0
        by_cases hi : i < 0 ∨ 1073741824 ≤ i
        · rw [if_pos hi] at h0; cases h0
        · exact ⟨Classical.not_not.1 hc, by omega, by omega⟩
    obtain ⟨hc, hi0, hi1⟩ := hcc
    have hb := check_neg hc
    obtain ⟨h, rfl⟩ : ∃ h : Nat, ht = h := ⟨ht.toNat, by omega⟩
    obtain ⟨n, rfl⟩ : ∃ n : Nat, i = n := ⟨i.toNat, by omega⟩
    have hT := check_iff.1 hc
    have hn : n < 1073741824 := by omega
    have hnR : n < RM := by rw [RM_val]; exact hn
    have hst := step_ok (t := (h, x)) hT hn v
    have hL : setL (entT h x) n v = lsE RM 0 (updF (tl h x) n (setE v (tl h x n))) := by rw [ent_ls hT]; exact setL_ls (tl_wf hT) hnR v
    have hwf : wfE (updF (tl h x) n (setE v (tl h x n))) := updF_wf (tl_wf hT) n fun he => setE_wf he
    have hfar : ∀ j, RM ≤ j → updF (tl h x) n (setE v (tl h x n)) j = e0 := fun j hj => by rw [updF, if_neg (by omega)]; exact tl_far hT hj
    refine ⟨(stepT (h, x) n v).1, (stepT (h, x) n v).2, 0, hst.2.2, fun cs W hr => ?_, fun _ => ?_⟩
    · refine (r_Set_yes cs h x n v W hr h0 (by rw [hL]; exact ls_in _) (by rw [hL]; exact ls_asc _ _)).mono fun e w' hp => ?_
      rcases hp with ⟨hz, -⟩ | ⟨-, h2, x2, hp, hf⟩
      · exact absurd rfl hz
      · rw [hL] at hf
        have hbo := built_ok hwf hfar hf
        have hcn := tree_canon hst.1 hbo.1 fun j => by rw [hst.2.1 j, hbo.2 j]; rfl
        exact ⟨h2, x2, hp, sameT_of hcn.1 hcn.2⟩
    · have hg := get_tl hst.1 hn
      rw [hst.2.1 n, if_pos rfl] at hg
      refine hg.trans ?_
      unfold setE
      by_cases hv : v = 0
      · rw [if_pos hv, hv]; rfl
      · rw [if_neg hv]
end Go.Proofs.Ytcicfijpfhbcaaa
