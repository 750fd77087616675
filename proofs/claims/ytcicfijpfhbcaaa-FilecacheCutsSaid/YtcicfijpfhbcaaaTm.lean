/-
  The reference's Tagged, mark, Tag, Untag.
-/
import Derived.Test.YtcicfijpfhbcaaaLt
namespace Go.Proofs.Ytcicfijpfhbcaaa
set_option linter.unusedSimpArgs false
set_option linter.unusedVariables false
set_option linter.unusedSectionVars false
open Go.RowKit

/-- What the reference's Tagged answers. -/
def tagE (l : List E3) (i tag : Int) : Bool := (tag == 0 || tag == 1) && match hitE l i with | some e => hasB tag e.2.2 | none => false
set_option maxRecDepth 100000 in
set_option maxHeartbeats 1000000 in
theorem r_Tagged (cs : Array Value) (ht : Int) (x : RN) (i tag : Int) (w : World) (h : RdVals w cs 12 (encR ht x)) :
    Calls Try.prog 35 #[.agg cs, .int .i64 i, .int .i64 tag] w fun e w' => e = .returned (.bool (tagE (entT ht x) i tag)) ∧ Below w.heap.size w w' := by
  obtain ⟨A, cap, rfl, hk⟩ := rdR_open h
  have HR := Lib.hid h
  clear h hk
  have hlen := entT_len ht x
  have HE : Hid (∀ cs W, RdVals W cs 12 (encR ht x) → Calls Try.prog 78 #[.agg cs] W (EntPost (entT ht x) W)) := fun cs W hr => r_Entries cs ht x W hr
  generalize entT ht x = l at *
  have hat := atP_le l i
  have hmax : (l.length : Int) ≤ 1073741824 := by omega
  have hpl : (atP l i : Int) ≤ (l.length : Int) := by omega
  have HRA : Hid (∀ v base W, OwnE W base l v → Calls Try.prog 79 #[v, .int .i64 i] W fun e w' => e = .returned (.int .i64 (atP l i : Int)) ∧ W = w') := fun v base W ho => r_at v l i base W ho
  by_cases htg : tag = 0 ∨ tag = 1
  · have t0 : -1 ≤ tag := by omega
    have t1 : tag ≤ 1 := by omega
    have htb : (tag == 0 || tag == 1) = true := by rcases htg with rfl | rfl <;> rfl
    rcases Nat.lt_or_ge (atP l i) l.length with hlt | hge
    · obtain ⟨e, he⟩ : ∃ e, l[atP l i]? = some e := ⟨_, List.getElem?_eq_getElem hlt⟩
      have HAT : Hid (∀ W base v, OwnE W base l v → ∃ g cap, v = .slice (some ⟨g, 0, none⟩) l.length cap ∧ g < W.heap.size ∧ W.cell? ⟨g, atP l i * 3, none⟩ = some (.int .i64 e.1) ∧ W.cell? ⟨g, atP l i * 3 + 1, none⟩ = some (.int .i64 e.2.1) ∧ W.cell? ⟨g, atP l i * 3 + 2, none⟩ = some (.int .i64 e.2.2)) := fun W base v ho => by
        obtain ⟨g, cap, h1, -, h2, h3, h4, h5⟩ := ho.at he
        exact ⟨g, cap, h1, h2, h3, h4, h5⟩
      by_cases hi : e.1 = i
      · have hp : Hid (tagE l i tag = hasB tag e.2.2) := by rw [Hid, tagE, htb, hit_some he hi]; rfl
        have hib : (e.1 == i) = true := by simp [hi]
        clear he hi hat htb
        generalize atP l i = p at *
        have hpl : (p : Int) < (l.length : Int) := by omega
        rcases htg with rfl | rfl
        all_goals
          go_enter Try.func35, Try.ntmps35
          go_wp2_with (first
            | (go_at_call 78; refine (HE.out _ _ ?_).mono ?_; exact HR.out.keep (below_keeps (by (repeat' (first | (with_reducible exact Below.refl _ _) | (with_reducible assumption) | (with_reducible refine below_plus ?_ ?_ _) | (with_reducible refine Below.alloc ?_ ?_ _) | (with_reducible refine Below.drew ?_) | (with_reducible refine below_drewN ?_ _) | (with_reducible refine Below.setCell ?_ ?_ _) | (first | omega | (simp only [World.size_alloc, size_plus, World.size_drew, World.size_setCell] <;> omega) | (simp <;> omega)) | omega | (simp; omega))))); rintro e W ⟨v, rfl, ho, hb⟩; (obtain ⟨g, cap1, rfl, hgw, c0, c1, c2⟩ := HAT.out _ _ _ ho); have HO := Lib.hid ho; have HB := Lib.hid (below_trans (below_alloc w _) (hb.mono (by (first | omega | (simp only [World.size_alloc, size_plus, World.size_drew, World.size_setCell] <;> omega) | (simp <;> omega))))); clear ho hb)
            | (go_at_call 79; refine (HRA.out _ _ _ HO.out).mono ?_; rintro e W' ⟨rfl, rfl⟩)
            | (go_at_call 88; refine (r_has _ _ _ t0 t1).mono ?_; rintro e w' ⟨rfl, hb⟩; (first | (obtain ⟨X, rfl⟩ := plus_again hb) | (obtain ⟨X, rfl⟩ := plus_of_below hb)); clear hb))
          go_ret
          exact ⟨by rw [hp.out]; rfl, below_plus HB.out HB.out.size _⟩
      · have hp : Hid (tagE l i tag = false) := by rw [Hid, tagE, hit_miss he hi]; simp
        have hib : (e.1 == i) = false := by simp [hi]
        clear he hi hat htb
        generalize atP l i = p at *
        have hpl : (p : Int) < (l.length : Int) := by omega
        rcases htg with rfl | rfl
        all_goals
          go_enter Try.func35, Try.ntmps35
          go_wp2_with (first
            | (go_at_call 78; refine (HE.out _ _ ?_).mono ?_; exact HR.out.keep (below_keeps (by (repeat' (first | (with_reducible exact Below.refl _ _) | (with_reducible assumption) | (with_reducible refine below_plus ?_ ?_ _) | (with_reducible refine Below.alloc ?_ ?_ _) | (with_reducible refine Below.drew ?_) | (with_reducible refine below_drewN ?_ _) | (with_reducible refine Below.setCell ?_ ?_ _) | (first | omega | (simp only [World.size_alloc, size_plus, World.size_drew, World.size_setCell] <;> omega) | (simp <;> omega)) | omega | (simp; omega))))); rintro e W ⟨v, rfl, ho, hb⟩; (obtain ⟨g, cap1, rfl, hgw, c0, c1, c2⟩ := HAT.out _ _ _ ho); have HO := Lib.hid ho; have HB := Lib.hid (below_trans (below_alloc w _) (hb.mono (by (first | omega | (simp only [World.size_alloc, size_plus, World.size_drew, World.size_setCell] <;> omega) | (simp <;> omega))))); clear ho hb)
            | (go_at_call 79; refine (HRA.out _ _ _ HO.out).mono ?_; rintro e W' ⟨rfl, rfl⟩))
          go_ret
          exact ⟨by rw [hp.out]; rfl, HB.out⟩
    · have hp : Hid (tagE l i tag = false) := by rw [Hid, tagE, hit_end (List.getElem?_eq_none hge)]; simp
      have hpe : ¬ (atP l i : Int) < (l.length : Int) := by omega
      clear hge hat htb
      generalize atP l i = p at *
      rcases htg with rfl | rfl
      all_goals
        go_enter Try.func35, Try.ntmps35
        go_wp2_with (first
          | (go_at_call 78; refine (HE.out _ _ ?_).mono ?_; exact HR.out.keep (below_keeps (by (repeat' (first | (with_reducible exact Below.refl _ _) | (with_reducible assumption) | (with_reducible refine below_plus ?_ ?_ _) | (with_reducible refine Below.alloc ?_ ?_ _) | (with_reducible refine Below.drew ?_) | (with_reducible refine below_drewN ?_ _) | (with_reducible refine Below.setCell ?_ ?_ _) | (first | omega | (simp only [World.size_alloc, size_plus, World.size_drew, World.size_setCell] <;> omega) | (simp <;> omega)) | omega | (simp; omega))))); rintro e W ⟨v, rfl, ho, hb⟩; (obtain ⟨A1, cap1, rfl, -, -⟩ := ho.slice); have HO := Lib.hid ho; have HB := Lib.hid (below_trans (below_alloc w _) (hb.mono (by (first | omega | (simp only [World.size_alloc, size_plus, World.size_drew, World.size_setCell] <;> omega) | (simp <;> omega))))); clear ho hb)
          | (go_at_call 79; refine (HRA.out _ _ _ HO.out).mono ?_; rintro e W' ⟨rfl, rfl⟩))
        go_ret
        exact ⟨by rw [hp.out]; rfl, HB.out⟩
  · have b0 : (tag == 0) = false := by simp; omega
    have b1 : (tag == 1) = false := by simp; omega
    have hp : Hid (tagE l i tag = false) := by rw [Hid, tagE, b0, b1]; rfl
    clear htg
    generalize atP l i = p at *
    go_enter Try.func35, Try.ntmps35
    go_wp2_with (first
      | (go_at_call 78; refine (HE.out _ _ ?_).mono ?_; exact HR.out.keep (below_keeps (by (repeat' (first | (with_reducible exact Below.refl _ _) | (with_reducible assumption) | (with_reducible refine below_plus ?_ ?_ _) | (with_reducible refine Below.alloc ?_ ?_ _) | (with_reducible refine Below.drew ?_) | (with_reducible refine below_drewN ?_ _) | (with_reducible refine Below.setCell ?_ ?_ _) | (first | omega | (simp only [World.size_alloc, size_plus, World.size_drew, World.size_setCell] <;> omega) | (simp <;> omega)) | omega | (simp; omega))))); rintro e W ⟨v, rfl, ho, hb⟩; (obtain ⟨A1, cap1, rfl, -, -⟩ := ho.slice); have HO := Lib.hid ho; have HB := Lib.hid (below_trans (below_alloc w _) (hb.mono (by (first | omega | (simp only [World.size_alloc, size_plus, World.size_drew, World.size_setCell] <;> omega) | (simp <;> omega))))); clear ho hb)
      | (go_at_call 79; refine (HRA.out _ _ _ HO.out).mono ?_; rintro e W' ⟨rfl, rfl⟩))
    go_ret
    exact ⟨by rw [hp.out]; rfl, HB.out⟩

theorem flatE_set : ∀ (l : List E3) (k : Nat) (e : E3) (t : Int), l[k]? = some e → (flatE l).set (k * 3 + 2) (.int .i64 t) = flatE (l.set k (e.1, e.2.1, t))
  | [], k, e, t, h => by simp at h
  | a :: l, 0, e, t, h => by
    have : a = e := by simpa using h
    subst this
    rfl
  | a :: l, k + 1, e, t, h => by
    have h' : l[k]? = some e := by simpa using h
    have ih := flatE_set l k e t h'
    have e3 : (k + 1) * 3 + 2 = (k * 3 + 2) + 3 := by omega
    rw [e3, List.set_cons_succ]
    show [_, _, _] ++ (flatE l).set (k * 3 + 2) _ = [_, _, _] ++ flatE (l.set k _)
    rw [ih]
theorem OwnE.set {w : World} {base : Nat} {l : List E3} {g cap : Nat} (h : OwnE w base l (.slice (some ⟨g, 0, none⟩) l.length cap)) {k : Nat} {e : E3} (hk : l[k]? = some e) (t : Int) :
    OwnE (w.setCell ⟨g, k * 3 + 2, none⟩ (.int .i64 t)) base (l.set k (e.1, e.2.1, t)) (.slice (some ⟨g, 0, none⟩) l.length cap) ∧ w.frozen? ⟨g, k * 3 + 2, none⟩ = false ∧ base ≤ g := by
  rcases h.2 with ⟨h1, h2⟩ | ⟨q, cap', cur, h1, h2, h3, h4, h5, h6, h7⟩
  · cases h1
  · injection h1 with e1 e2 e3
    have e1' : g = q := by simpa using e1
    subst e1' e3
    refine ⟨⟨by rw [flatE_len], .inr ⟨g, cap, cur.setIfInBounds (k * 3 + 2) (.int .i64 t), ?_, h2, heap_setCell_same _ _ _ _ _ _ h3, ?_, h5, by simp [h6], ?_⟩⟩, frozen_of_row _ _ _ _ _ h3, h2⟩
    · rw [List.length_set]
    · rw [List.length_set]; exact h4
    · rw [Array.toList_setIfInBounds, List.length_set, List.take_set, h7]
      exact flatE_set l k e t hk
/-- The tags as the reference's mark leaves them. -/
def newT (on : Bool) (tag : Nat) (t : Int) : Int := if on then bits .or .i64 t (if tag = 0 then 1 else 2) else bits .andNot .i64 t (if tag = 0 then 1 else 2)
def markL (l : List E3) (i : Int) (tag : Nat) (on : Bool) : List E3 := match hitE l i with
  | some e => l.set (atP l i) (e.1, e.2.1, newT on tag e.2.2)
  | none => l

set_option maxRecDepth 100000 in
set_option maxHeartbeats 1000000 in
theorem r_mark_yes (cs : Array Value) (ht : Int) (x : RN) (i : Int) (tag : Nat) (htg : tag < 2) (on : Bool) (w : World) (h : RdVals w cs 12 (encR ht x)) (h0 : idxP ht x i = 0) (e : E3) (hhit : hitE (entT ht x) i = some e)
    (hin : InE (markL (entT ht x) i tag on) 0 (8 ^ 9)) (hasc : (markL (entT ht x) i tag on).Pairwise fun a b => a.1 < b.1) :
    Calls Try.prog 87 #[.agg cs, .int .i64 i, .int .i64 (tag : Int), .bool on] w (RefPost (markL (entT ht x) i tag on) 0 w) := by
  obtain ⟨A, cap, rfl, hk⟩ := rdR_open h
  have HR := Lib.hid h
  have hlen := entT_len ht x
  have HE : Hid (∀ cs W, RdVals W cs 12 (encR ht x) → Calls Try.prog 78 #[.agg cs] W (EntPost (entT ht x) W)) := fun cs W hr => r_Entries cs ht x W hr
  have HIX : Hid (∀ cs W, RdVals W cs 12 (encR ht x) → Calls Try.prog 77 #[.agg cs, .int .i64 i] W fun e w' => e = .returned (.int .i64 0) ∧ Below W.heap.size W w') := fun cs W hr => by
    have := r_index cs ht x i W hr
    rw [h0] at this; exact this
  have HBU : Hid (∀ v' base W, OwnE W base (markL (entT ht x) i tag on) v' → Calls Try.prog 80 #[v'] W (BuildPost (markL (entT ht x) i tag on) W)) := fun v' base W ho => r_Build v' _ base W ho hin hasc
  have hset : markL (entT ht x) i tag on = (entT ht x).set (atP (entT ht x) i) (e.1, e.2.1, newT on tag e.2.2) := by unfold markL; rw [hhit]
  have he : (entT ht x)[atP (entT ht x) i]? = some e ∧ e.1 = i := by
    refine ⟨?_, ?_⟩
    · unfold hitE at hhit
      cases hq : (entT ht x)[atP (entT ht x) i]? with
      | none => rw [hq] at hhit; cases hhit
      | some y =>
        rw [hq] at hhit
        dsimp only at hhit
        split at hhit
        · exact hhit
        · cases hhit
    · unfold hitE at hhit
      cases hq : (entT ht x)[atP (entT ht x) i]? with
      | none => rw [hq] at hhit; cases hhit
      | some y =>
        rw [hq] at hhit
        dsimp only at hhit
        split at hhit
        · injection hhit with hhit; subst hhit; assumption
        · cases hhit
  clear h hk h0 hin hasc hhit
  have hset' := Lib.hid hset
  clear hset
  generalize markL (entT ht x) i tag on = lo at *
  generalize entT ht x = l at *
  obtain ⟨hg, hi⟩ := he
  have hat := atP_le l i
  have hlt : atP l i < l.length := (List.getElem?_eq_some_iff.1 hg).1
  have HRA : Hid (∀ v base W, OwnE W base l v → Calls Try.prog 79 #[v, .int .i64 i] W fun e w' => e = .returned (.int .i64 (atP l i : Int)) ∧ W = w') := fun v base W ho => r_at v l i base W ho
  generalize atP l i = p at *
  have HAT : Hid (∀ W base v, OwnE W base l v → ∃ g cap, v = .slice (some ⟨g, 0, none⟩) l.length cap ∧ base ≤ g ∧ g < W.heap.size ∧ W.cell? ⟨g, p * 3, none⟩ = some (.int .i64 e.1) ∧ W.cell? ⟨g, p * 3 + 2, none⟩ = some (.int .i64 e.2.2) ∧ W.frozen? ⟨g, p * 3 + 2, none⟩ = false ∧
      ∀ t, OwnE (W.setCell ⟨g, p * 3 + 2, none⟩ (.int .i64 t)) base (l.set p (e.1, e.2.1, t)) v) := fun W base v ho => by
    obtain ⟨g, cap, rfl, hb, h2, h3, -, h5⟩ := ho.at hg
    exact ⟨g, cap, rfl, hb, h2, h3, h5, (ho.set hg 0).2.1, fun t => (ho.set hg t).1⟩
  have hmax : (l.length : Int) ≤ 1073741824 := by omega
  have hpl : (p : Int) < (l.length : Int) := by omega
  have hpne : ((p : Int) == (l.length : Int)) = false := by simp; omega
  have hib : (e.1 != i) = false := by simp [hi]
  clear hg hi hat
  have hcase : (tag = 0 ∨ tag = 1) := by omega
  clear htg
  rcases hcase with rfl | rfl <;> cases on
  all_goals
    go_enter Try.func87, Try.ntmps87
    go_wp2_with (first
      | (go_at_call 77; refine (HIX.out _ _ ?_).mono ?_; exact HR.out.keep (below_keeps (by (repeat' (first | (with_reducible exact Below.refl _ _) | (with_reducible assumption) | (with_reducible refine below_plus ?_ ?_ _) | (with_reducible refine Below.alloc ?_ ?_ _) | (with_reducible refine Below.drew ?_) | (with_reducible refine below_drewN ?_ _) | (with_reducible refine Below.setCell ?_ ?_ _) | (first | omega | (simp only [World.size_alloc, size_plus, World.size_drew, World.size_setCell] <;> omega) | (simp <;> omega)) | omega | (simp; omega))))); rintro e w' ⟨rfl, hb⟩; (first | (obtain ⟨X, rfl⟩ := plus_again hb) | (obtain ⟨X, rfl⟩ := plus_of_below hb)); clear hb)
      | (go_at_call 78; refine (HE.out _ _ ?_).mono ?_; exact HR.out.keep (below_keeps (by (repeat' (first | (with_reducible exact Below.refl _ _) | (with_reducible assumption) | (with_reducible refine below_plus ?_ ?_ _) | (with_reducible refine Below.alloc ?_ ?_ _) | (with_reducible refine Below.drew ?_) | (with_reducible refine below_drewN ?_ _) | (with_reducible refine Below.setCell ?_ ?_ _) | (first | omega | (simp only [World.size_alloc, size_plus, World.size_drew, World.size_setCell] <;> omega) | (simp <;> omega)) | omega | (simp; omega))))); rintro e9 W ⟨v, rfl, ho, hb⟩; (obtain ⟨g, cap1, rfl, hbg, hgw, c0, c2, cf, hset⟩ := HAT.out _ _ _ ho); have HO := Lib.hid ho; (have HRES : Hid (W.heap[w.heap.size + 1]? = some (.cells (cellsR 0 zeroN (.slice none 0 0)) 28 (0, 0))) := (hb.block (w.heap.size + 1) (by (first | omega | (simp only [World.size_alloc, size_plus, World.size_drew, World.size_setCell] <;> omega) | (simp <;> omega)))).trans (by (repeat' (first | (refine heap_alloc_here _ _ _ ?_; (first | omega | (simp only [World.size_alloc, size_plus, World.size_drew, World.size_setCell] <;> omega) | (simp <;> omega))) | (refine (heap_alloc_old _ _ _ ?_).trans ?_; (first | omega | (simp only [World.size_alloc, size_plus, World.size_drew, World.size_setCell] <;> omega) | (simp <;> omega))) | (refine (heap_plus _ _ _ ?_).trans ?_; (first | omega | (simp only [World.size_alloc, size_plus, World.size_drew, World.size_setCell] <;> omega) | (simp <;> omega))) | rfl)))); (have HB : Hid (Below w.heap.size w W) := below_trans (by (repeat' (first | (with_reducible exact Below.refl _ _) | (with_reducible assumption) | (with_reducible refine below_plus ?_ ?_ _) | (with_reducible refine Below.alloc ?_ ?_ _) | (with_reducible refine Below.drew ?_) | (with_reducible refine below_drewN ?_ _) | (with_reducible refine Below.setCell ?_ ?_ _) | (first | omega | (simp only [World.size_alloc, size_plus, World.size_drew, World.size_setCell] <;> omega) | (simp <;> omega)) | omega | (simp; omega)))) (hb.mono (by (first | omega | (simp only [World.size_alloc, size_plus, World.size_drew, World.size_setCell] <;> omega) | (simp <;> omega))))); have HST := Lib.hid hset; (have HGG : Hid (w.heap.size + 2 ≤ g) := Nat.le_trans (by (first | omega | (simp only [World.size_alloc, size_plus, World.size_drew, World.size_setCell] <;> omega) | (simp <;> omega))) hbg); clear ho hb hset hbg)
      | (go_at_call 79; refine (HRA.out _ _ _ HO.out).mono ?_; rintro e9 W' ⟨rfl, rfl⟩)
      | (go_at_call 80; generalize hV : World.setCell W _ _ = V; (have HVO := Lib.hid (by rw [← hV, hset'.out]; exact HST.out _ : OwnE V _ lo (.slice (some ⟨g, 0, none⟩) l.length cap1))); (have HVB : Hid (Below w.heap.size w V) := by rw [← hV]; exact HB.out.setCell (by have := HGG.out; show w.heap.size ≤ g; omega) _); (have HVR : Hid (V.heap[w.heap.size + 1]? = some (.cells (cellsR 0 zeroN (.slice none 0 0)) 28 (0, 0))) := by rw [← hV]; exact (heap_setCell_other W _ _ _ (by have := HGG.out; show w.heap.size + 1 ≠ g; omega)).trans HRES.out); clear hV; refine (HBU.out _ _ _ HVO.out).mono ?_; rintro e9 W1 ⟨h1, x1, s1, rfl, ho, hb, hfacts⟩; (obtain ⟨A9, cap9, rfl, -⟩ := ho.slice); have HO1 := Lib.hid ho; have HB1 := Lib.hid hb; have HFA := Lib.hid hfacts; (have HR1 := Lib.hid ((hb.block _ (lt_of_heap HVR.out)).trans HVR.out)); clear ho hb hfacts)
      | ((with_reducible refine wpList_storeR (.tmp 8) (.tmp 74) ?_ ?_ (w.heap.size + 1) ?_ (h1 : Int) x1 A9 x1.n cap9 ?_ (cellsR 0 zeroN (.slice none 0 0)) 28 ?_ rfl ?_); (with_reducible rfl); rfl; rfl; rfl; exact HR1.out))
    refine bodyPost_ret (v := _) (results_tree Try.results87 _ _ (w.heap.size + 1) h1 x1 (.slice A9 x1.n cap9) _ rfl (setRow_heap W1 _ _ _ _ _ HR1.out) rfl) rfl (.inr ⟨rfl, h1, x1, ⟨_, rfl, ?_, ?_⟩, HFA.out⟩)
    · have hlt1 := lt_of_heap HVR.out
      exact (OwnK.frame x1 HO1.out fun b hb _ => setRow_other W1 _ b _ (by omega)).mono fun b hb => by show w.heap.size ≤ b; omega
    · exact below_setRow (HVB.out.trans (HB1.out.mono HVB.out.size)) (by omega) _

/-- The errors of the reference's mark. -/
def mbad (ht : Int) (x : RN) (i tag : Int) : Int := if idxP ht x i ≠ 0 then idxP ht x i else if tag ≠ 0 ∧ tag ≠ 1 then 1 else if hitE (entT ht x) i = none then 6 else 0
set_option maxRecDepth 100000 in
set_option maxHeartbeats 1000000 in
theorem r_mark_no (cs : Array Value) (ht : Int) (x : RN) (i tag : Int) (on : Bool) (w : World) (h : RdVals w cs 12 (encR ht x)) (hno : mbad ht x i tag ≠ 0) :
    Calls Try.prog 87 #[.agg cs, .int .i64 i, .int .i64 tag, .bool on] w (RefPost [] (mbad ht x i tag) w) := by
  obtain ⟨A, cap, rfl, hk⟩ := rdR_open h
  have HR := Lib.hid h
  clear h hk
  have HNO := Lib.hid hno
  have hlen := entT_len ht x
  have HE : Hid (∀ cs W, RdVals W cs 12 (encR ht x) → Calls Try.prog 78 #[.agg cs] W (EntPost (entT ht x) W)) := fun cs W hr => r_Entries cs ht x W hr
  by_cases h0 : idxP ht x i = 0
  · have hib0 : (idxP ht x i != 0) = false := by simp [h0]
    by_cases htg : tag ≠ 0 ∧ tag ≠ 1
    · have hm : mbad ht x i tag = 1 := by unfold mbad; rw [if_neg (by simp [h0]), if_pos htg]
      rw [hm] at HNO ⊢
      obtain ⟨t0, t1⟩ := htg
      have b0 : (tag != 0) = true := by simp [t0]
      have b1 : (tag != 1) = true := by simp [t1]
      clear hm hno h0 t0 t1
      go_enter Try.func87, Try.ntmps87
      go_wp2_with (go_at_call 77; refine (r_index _ ht x i _ ?_).mono ?_; exact HR.out.keep (below_keeps (by (repeat' (first | (with_reducible exact Below.refl _ _) | (with_reducible assumption) | (with_reducible refine below_plus ?_ ?_ _) | (with_reducible refine Below.alloc ?_ ?_ _) | (with_reducible refine Below.drew ?_) | (with_reducible refine below_drewN ?_ _) | (with_reducible refine Below.setCell ?_ ?_ _) | (first | omega | (simp only [World.size_alloc, size_plus, World.size_drew, World.size_setCell] <;> omega) | (simp <;> omega)) | omega | (simp; omega))))); rintro e w' ⟨rfl, hb⟩; (first | (obtain ⟨X, rfl⟩ := plus_again hb) | (obtain ⟨X, rfl⟩ := plus_of_below hb)); clear hb)
      refine bodyPost_ret (v := _) (results_tree Try.results87 _ _ (w.heap.size + 1) 0 zeroN (.slice none 0 0) _ rfl ?_ rfl) rfl (.inl ⟨HNO.out, _, rfl, OwnK.none_ rfl, by (repeat' (first | (with_reducible exact Below.refl _ _) | (with_reducible assumption) | (with_reducible refine below_plus ?_ ?_ _) | (with_reducible refine Below.alloc ?_ ?_ _) | (with_reducible refine Below.drew ?_) | (with_reducible refine below_drewN ?_ _) | (with_reducible refine Below.setCell ?_ ?_ _) | (first | omega | (simp only [World.size_alloc, size_plus, World.size_drew, World.size_setCell] <;> omega) | (simp <;> omega)) | omega | (simp; omega)))⟩)
      (repeat' (first | (refine heap_alloc_here _ _ _ ?_; (first | omega | (simp only [World.size_alloc, size_plus, World.size_drew, World.size_setCell] <;> omega) | (simp <;> omega))) | (refine (heap_alloc_old _ _ _ ?_).trans ?_; (first | omega | (simp only [World.size_alloc, size_plus, World.size_drew, World.size_setCell] <;> omega) | (simp <;> omega))) | (refine (heap_plus _ _ _ ?_).trans ?_; (first | omega | (simp only [World.size_alloc, size_plus, World.size_drew, World.size_setCell] <;> omega) | (simp <;> omega))) | rfl))
    · have hnone : hitE (entT ht x) i = none := Classical.byContradiction fun hh => hno (by unfold mbad; rw [if_neg (by simp [h0]), if_neg htg, if_neg hh])
      have hm : mbad ht x i tag = 6 := by unfold mbad; rw [if_neg (by simp [h0]), if_neg htg, if_pos hnone]
      rw [hm] at HNO ⊢
      have hcase : tag = 0 ∨ tag = 1 := by omega
      clear hm hno h0 htg
      generalize entT ht x = l at *
      have hat := atP_le l i
      have hmax : (l.length : Int) ≤ 1073741824 := by omega
      have HRA : Hid (∀ v base W, OwnE W base l v → Calls Try.prog 79 #[v, .int .i64 i] W fun e w' => e = .returned (.int .i64 (atP l i : Int)) ∧ W = w') := fun v base W ho => r_at v l i base W ho
      rcases Nat.lt_or_ge (atP l i) l.length with hlt | hge
      · obtain ⟨e, he⟩ : ∃ e, l[atP l i]? = some e := ⟨_, List.getElem?_eq_getElem hlt⟩
        have hne : ¬ e.1 = i := fun hi => by rw [hit_some he hi] at hnone; cases hnone
        have hib : (e.1 != i) = true := by simp [hne]
        have HAT : Hid (∀ W base v, OwnE W base l v → ∃ g cap, v = .slice (some ⟨g, 0, none⟩) l.length cap ∧ g < W.heap.size ∧ W.cell? ⟨g, atP l i * 3, none⟩ = some (.int .i64 e.1)) := fun W base v ho => by
          obtain ⟨g, cap, h1, -, h2, h3, -, -⟩ := ho.at he
          exact ⟨g, cap, h1, h2, h3⟩
        clear he hne hnone hat
        generalize atP l i = p at *
        have hpl : (p : Int) < (l.length : Int) := by omega
        have hpne : ((p : Int) == (l.length : Int)) = false := by simp; omega
        rcases hcase with rfl | rfl
        all_goals
          go_enter Try.func87, Try.ntmps87
          go_wp2_with (first
            | (go_at_call 77; refine (r_index _ ht x i _ ?_).mono ?_; exact HR.out.keep (below_keeps (by (repeat' (first | (with_reducible exact Below.refl _ _) | (with_reducible assumption) | (with_reducible refine below_plus ?_ ?_ _) | (with_reducible refine Below.alloc ?_ ?_ _) | (with_reducible refine Below.drew ?_) | (with_reducible refine below_drewN ?_ _) | (with_reducible refine Below.setCell ?_ ?_ _) | (first | omega | (simp only [World.size_alloc, size_plus, World.size_drew, World.size_setCell] <;> omega) | (simp <;> omega)) | omega | (simp; omega))))); rintro e w' ⟨rfl, hb⟩; (first | (obtain ⟨X, rfl⟩ := plus_again hb) | (obtain ⟨X, rfl⟩ := plus_of_below hb)); clear hb)
            | (go_at_call 78; refine (HE.out _ _ ?_).mono ?_; exact HR.out.keep (below_keeps (by (repeat' (first | (with_reducible exact Below.refl _ _) | (with_reducible assumption) | (with_reducible refine below_plus ?_ ?_ _) | (with_reducible refine Below.alloc ?_ ?_ _) | (with_reducible refine Below.drew ?_) | (with_reducible refine below_drewN ?_ _) | (with_reducible refine Below.setCell ?_ ?_ _) | (first | omega | (simp only [World.size_alloc, size_plus, World.size_drew, World.size_setCell] <;> omega) | (simp <;> omega)) | omega | (simp; omega))))); rintro e9 W ⟨v, rfl, ho, hb⟩; (obtain ⟨g, cap1, rfl, hgw, c0⟩ := HAT.out _ _ _ ho); have HO := Lib.hid ho; (have HRES : Hid (W.heap[w.heap.size + 1]? = some (.cells (cellsR 0 zeroN (.slice none 0 0)) 28 (0, 0))) := (hb.block (w.heap.size + 1) (by (first | omega | (simp only [World.size_alloc, size_plus, World.size_drew, World.size_setCell] <;> omega) | (simp <;> omega)))).trans (by (repeat' (first | (refine heap_alloc_here _ _ _ ?_; (first | omega | (simp only [World.size_alloc, size_plus, World.size_drew, World.size_setCell] <;> omega) | (simp <;> omega))) | (refine (heap_alloc_old _ _ _ ?_).trans ?_; (first | omega | (simp only [World.size_alloc, size_plus, World.size_drew, World.size_setCell] <;> omega) | (simp <;> omega))) | (refine (heap_plus _ _ _ ?_).trans ?_; (first | omega | (simp only [World.size_alloc, size_plus, World.size_drew, World.size_setCell] <;> omega) | (simp <;> omega))) | rfl)))); (have HB : Hid (Below w.heap.size w W) := below_trans (by (repeat' (first | (with_reducible exact Below.refl _ _) | (with_reducible assumption) | (with_reducible refine below_plus ?_ ?_ _) | (with_reducible refine Below.alloc ?_ ?_ _) | (with_reducible refine Below.drew ?_) | (with_reducible refine below_drewN ?_ _) | (with_reducible refine Below.setCell ?_ ?_ _) | (first | omega | (simp only [World.size_alloc, size_plus, World.size_drew, World.size_setCell] <;> omega) | (simp <;> omega)) | omega | (simp; omega)))) (hb.mono (by (first | omega | (simp only [World.size_alloc, size_plus, World.size_drew, World.size_setCell] <;> omega) | (simp <;> omega))))); clear ho hb)
            | (go_at_call 79; refine (HRA.out _ _ _ HO.out).mono ?_; rintro e9 W' ⟨rfl, rfl⟩)
            | ((with_reducible refine wpList_storeR (.tmp 8) (.tmp 45) ?_ ?_ (w.heap.size + 1) ?_ 0 zeroN none 0 0 ?_ (cellsR 0 zeroN (.slice none 0 0)) 28 ?_ rfl ?_); (with_reducible rfl); rfl; rfl; rfl; exact HRES.out))
          exact bodyPost_ret (v := _) (results_tree Try.results87 _ _ (w.heap.size + 1) 0 zeroN (.slice none 0 0) _ rfl (setRow_heap W _ _ _ _ _ HRES.out) rfl) rfl (.inl ⟨HNO.out, _, rfl, OwnK.none_ rfl, below_setRow HB.out (by omega) _⟩)
      · have hpe : ((atP l i : Int) == (l.length : Int)) = true := by simp; omega
        clear hnone hat hge
        generalize atP l i = p at *
        rcases hcase with rfl | rfl
        all_goals
          go_enter Try.func87, Try.ntmps87
          go_wp2_with (first
            | (go_at_call 77; refine (r_index _ ht x i _ ?_).mono ?_; exact HR.out.keep (below_keeps (by (repeat' (first | (with_reducible exact Below.refl _ _) | (with_reducible assumption) | (with_reducible refine below_plus ?_ ?_ _) | (with_reducible refine Below.alloc ?_ ?_ _) | (with_reducible refine Below.drew ?_) | (with_reducible refine below_drewN ?_ _) | (with_reducible refine Below.setCell ?_ ?_ _) | (first | omega | (simp only [World.size_alloc, size_plus, World.size_drew, World.size_setCell] <;> omega) | (simp <;> omega)) | omega | (simp; omega))))); rintro e w' ⟨rfl, hb⟩; (first | (obtain ⟨X, rfl⟩ := plus_again hb) | (obtain ⟨X, rfl⟩ := plus_of_below hb)); clear hb)
            | (go_at_call 78; refine (HE.out _ _ ?_).mono ?_; exact HR.out.keep (below_keeps (by (repeat' (first | (with_reducible exact Below.refl _ _) | (with_reducible assumption) | (with_reducible refine below_plus ?_ ?_ _) | (with_reducible refine Below.alloc ?_ ?_ _) | (with_reducible refine Below.drew ?_) | (with_reducible refine below_drewN ?_ _) | (with_reducible refine Below.setCell ?_ ?_ _) | (first | omega | (simp only [World.size_alloc, size_plus, World.size_drew, World.size_setCell] <;> omega) | (simp <;> omega)) | omega | (simp; omega))))); rintro e9 W ⟨v, rfl, ho, hb⟩; (obtain ⟨A1, cap1, rfl, -, -⟩ := ho.slice); have HO := Lib.hid ho; (have HRES : Hid (W.heap[w.heap.size + 1]? = some (.cells (cellsR 0 zeroN (.slice none 0 0)) 28 (0, 0))) := (hb.block (w.heap.size + 1) (by (first | omega | (simp only [World.size_alloc, size_plus, World.size_drew, World.size_setCell] <;> omega) | (simp <;> omega)))).trans (by (repeat' (first | (refine heap_alloc_here _ _ _ ?_; (first | omega | (simp only [World.size_alloc, size_plus, World.size_drew, World.size_setCell] <;> omega) | (simp <;> omega))) | (refine (heap_alloc_old _ _ _ ?_).trans ?_; (first | omega | (simp only [World.size_alloc, size_plus, World.size_drew, World.size_setCell] <;> omega) | (simp <;> omega))) | (refine (heap_plus _ _ _ ?_).trans ?_; (first | omega | (simp only [World.size_alloc, size_plus, World.size_drew, World.size_setCell] <;> omega) | (simp <;> omega))) | rfl)))); (have HB : Hid (Below w.heap.size w W) := below_trans (by (repeat' (first | (with_reducible exact Below.refl _ _) | (with_reducible assumption) | (with_reducible refine below_plus ?_ ?_ _) | (with_reducible refine Below.alloc ?_ ?_ _) | (with_reducible refine Below.drew ?_) | (with_reducible refine below_drewN ?_ _) | (with_reducible refine Below.setCell ?_ ?_ _) | (first | omega | (simp only [World.size_alloc, size_plus, World.size_drew, World.size_setCell] <;> omega) | (simp <;> omega)) | omega | (simp; omega)))) (hb.mono (by (first | omega | (simp only [World.size_alloc, size_plus, World.size_drew, World.size_setCell] <;> omega) | (simp <;> omega))))); clear ho hb)
            | (go_at_call 79; refine (HRA.out _ _ _ HO.out).mono ?_; rintro e9 W' ⟨rfl, rfl⟩)
            | ((with_reducible refine wpList_storeR (.tmp 8) (.tmp 45) ?_ ?_ (w.heap.size + 1) ?_ 0 zeroN none 0 0 ?_ (cellsR 0 zeroN (.slice none 0 0)) 28 ?_ rfl ?_); (with_reducible rfl); rfl; rfl; rfl; exact HRES.out))
          exact bodyPost_ret (v := _) (results_tree Try.results87 _ _ (w.heap.size + 1) 0 zeroN (.slice none 0 0) _ rfl (setRow_heap W _ _ _ _ _ HRES.out) rfl) rfl (.inl ⟨HNO.out, _, rfl, OwnK.none_ rfl, below_setRow HB.out (by omega) _⟩)
  · have hm : mbad ht x i tag = idxP ht x i := if_pos h0
    rw [hm] at HNO ⊢
    have hib0 : (idxP ht x i != 0) = true := by simp [h0]
    clear hm hno h0
    go_enter Try.func87, Try.ntmps87
    go_wp2_with (go_at_call 77; refine (r_index _ ht x i _ ?_).mono ?_; exact HR.out.keep (below_keeps (by (repeat' (first | (with_reducible exact Below.refl _ _) | (with_reducible assumption) | (with_reducible refine below_plus ?_ ?_ _) | (with_reducible refine Below.alloc ?_ ?_ _) | (with_reducible refine Below.drew ?_) | (with_reducible refine below_drewN ?_ _) | (with_reducible refine Below.setCell ?_ ?_ _) | (first | omega | (simp only [World.size_alloc, size_plus, World.size_drew, World.size_setCell] <;> omega) | (simp <;> omega)) | omega | (simp; omega))))); rintro e w' ⟨rfl, hb⟩; (first | (obtain ⟨X, rfl⟩ := plus_again hb) | (obtain ⟨X, rfl⟩ := plus_of_below hb)); clear hb)
    refine bodyPost_ret (v := _) (results_tree Try.results87 _ _ (w.heap.size + 1) 0 zeroN (.slice none 0 0) _ rfl ?_ rfl) rfl (.inl ⟨HNO.out, _, rfl, OwnK.none_ rfl, by (repeat' (first | (with_reducible exact Below.refl _ _) | (with_reducible assumption) | (with_reducible refine below_plus ?_ ?_ _) | (with_reducible refine Below.alloc ?_ ?_ _) | (with_reducible refine Below.drew ?_) | (with_reducible refine below_drewN ?_ _) | (with_reducible refine Below.setCell ?_ ?_ _) | (first | omega | (simp only [World.size_alloc, size_plus, World.size_drew, World.size_setCell] <;> omega) | (simp <;> omega)) | omega | (simp; omega)))⟩)
    (repeat' (first | (refine heap_alloc_here _ _ _ ?_; (first | omega | (simp only [World.size_alloc, size_plus, World.size_drew, World.size_setCell] <;> omega) | (simp <;> omega))) | (refine (heap_alloc_old _ _ _ ?_).trans ?_; (first | omega | (simp only [World.size_alloc, size_plus, World.size_drew, World.size_setCell] <;> omega) | (simp <;> omega))) | (refine (heap_plus _ _ _ ?_).trans ?_; (first | omega | (simp only [World.size_alloc, size_plus, World.size_drew, World.size_setCell] <;> omega) | (simp <;> omega))) | rfl))

theorem newT_eq (k : Nat) (hk : k < 2) (on : Bool) (e : Ent) : newT on k (tgE e) = tgE (markE k on e) := by
  have h : ∀ k : Fin 2, ∀ on a b : Bool, (if on then bits .or .i64 ((if a then 1 else 0) + (if b then 1 else 0) * 2) (if k.1 = 0 then 1 else 2) else bits .andNot .i64 ((if a then 1 else 0) + (if b then 1 else 0) * 2) (if k.1 = 0 then 1 else 2)) =
      (if k.1 = 0 then (if on then 1 else 0) + (if b then 1 else 0) * 2 else (if a then 1 else 0) + (if on then 1 else 0) * 2) := by decide +kernel
  have := h ⟨k, hk⟩ on e.2.1 e.2.2
  unfold newT tgE markE
  rw [this]
  by_cases h0 : k = 0
  · simp only [h0, if_true]
  · simp only [if_neg h0]
theorem markE_v (k : Nat) (on : Bool) (e : Ent) : (markE k on e).1 = e.1 := by unfold markE; split <;> rfl
theorem markL_ls {R : Nat} {f : Nat → Ent} {i : Nat} (hi : i < R) (h0 : (f i).1 ≠ 0) (k : Nat) (hk : k < 2) (on : Bool) : markL (lsE R 0 f) i k on = lsE R 0 (updF f i (markE k on (f i))) := by
  unfold markL
  rw [hit_ls hi, if_neg h0, at_ls hi, ls_upd hi, ls_at hi]
  dsimp only
  have hr : row3 0 (f i) i = [((0 : Int) + i, (f i).1, tgE (f i))] := by rw [row3, if_neg h0]
  have hr2 : row3 0 (markE k on (f i)) i = [((0 : Int) + i, (f i).1, tgE (markE k on (f i)))] := by rw [row3, if_neg (by rw [markE_v]; exact h0), markE_v]
  rw [hr, hr2, List.set_append_right _ _ (Nat.le_refl _), Nat.sub_self, newT_eq k hk, Int.zero_add]
  rfl
theorem mark_ok {h : Nat} {x : RN} (ht : okT h x) {i : Nat} (hi : i < 1073741824) (k : Nat) (on : Bool) (h0 : (tl h x i).1 ≠ 0) :
    okT h (updN (markLeaf k on) i (h - 1) x) ∧ ∀ j, tl h (updN (markLeaf k on) i (h - 1) x) j = updF (tl h x) i (markE k on (tl h x i)) j := by
  rcases Nat.eq_zero_or_pos h with hz | hz
  · subst hz; exact absurd rfl h0
  · obtain ⟨m, rfl⟩ : ∃ m, h = m + 1 := ⟨h - 1, by omega⟩
    rw [show m + 1 - 1 = m by omega]
    have hq := ht.q
    have him : i < 8 ^ (m + 1) := by
      rcases Nat.lt_or_ge i (8 ^ (m + 1)) with h | h
      · exact h
      · rw [tl_succ, if_neg (by omega)] at h0; exact absurd rfl h0
    have hv : (lk m x i).1 ≠ 0 := by rw [tl_succ, if_pos him] at h0; exact h0
    obtain ⟨hP, hl⟩ := upd_mark hq i him k on hv
    have hval : ∀ j, j < 8 ^ (m + 1) → (lk m (updN (markLeaf k on) i m x) j).1 = (lk m x j).1 := fun j hj => by
      rw [hl j hj]
      split
      · rename_i h; rw [markE_v, h]
      · rfl
    have hN : okN m (updN (markLeaf k on) i m x) := ⟨hP, Bool.eq_false_iff.2 fun he => by
      have := hval i him
      rw [lk_empty m hP he] at this
      exact hv this.symm⟩
    have hbd : m + 1 ≤ 10 ∧ (m + 1 = 1 ∨ laterTo x 7 = true) := by
      rcases ht with h | h
      · omega
      · exact ⟨h.2.1, h.2.2.2⟩
    refine ⟨.inr ⟨by omega, hbd.1, by rw [show m + 1 - 1 = m by omega]; exact hN, ?_⟩, fun j => ?_⟩
    · rcases hbd.2 with h1 | h1
      · exact .inl h1
      · right
        obtain ⟨d, d1, d8, hd⟩ := later_iff.1 h1
        rcases m with _ | m
        · refine later_iff.2 ⟨d, d1, d8, ?_⟩
          have hn0 : x.n = 0 := hq.leaf.1
          rw [kid_none hn0] at hd
          rw [absent_zeroN] at hd; cases hd
        · have hk : okN m (x.kid d) := by
            rcases hq.kid (i := d) d8 with h | h
            · rw [hd] at h; cases h
            · exact h
          obtain ⟨r, hr, hr0⟩ := okN_entry m hk
          have hj : d * 8 ^ (m + 1) + r < 8 ^ (m + 1 + 1) := by
            have e8 : (8 : Nat) ^ (m + 1 + 1) = 8 * 8 ^ (m + 1) := by rw [Nat.pow_succ, Nat.mul_comm]
            have : d * 8 ^ (m + 1) ≤ 7 * 8 ^ (m + 1) := Nat.mul_le_mul_right _ (by omega)
            omega
          refine later_iff.2 ⟨d, d1, d8, ?_⟩
          cases ha : absentB ((updN (markLeaf k on) i (m + 1) x).kid d)
          · rfl
          · exfalso
            have h2 := hval _ hj
            rw [lk_top _ d8 hr, lk_top _ d8 hr, lk_absent m ha] at h2
            exact hr0 h2.symm
    · rw [tl_succ, updF]
      by_cases hj : j < 8 ^ (m + 1)
      · rw [if_pos hj, hl j hj]
        by_cases hji : j = i
        · rw [if_pos hji, if_pos hji, tl_succ, if_pos him]
        · rw [if_neg hji, if_neg hji, tl_succ, if_pos hj]
      · rw [if_neg hj, if_neg (by omega), tl_succ, if_neg hj]
theorem hit_none {h : Nat} {x : RN} (hT : okT h x) {n : Nat} (hn : n < 1073741824) : hitE (entT h x) n = none ↔ getP h x n = 0 := by
  rw [ent_ls hT, hit_ls (by rw [RM_val]; exact hn), get_tl hT hn]
  split
  · rename_i h0; simp [h0]
  · rename_i h0; simp [h0]
/-- What mark leaves, and what the reference's mark leaves. -/
theorem marks_facts (ht : Int) (x : RN) (i tag : Int) (on : Bool) : ∃ (h1 : Int) (x1 : RN) (er : Int), markP ht x i tag on = (h1, x1, er) ∧
    (∀ cs W, RdVals W cs 12 (encR ht x) → Calls Try.prog 87 #[.agg cs, .int .i64 i, .int .i64 tag, .bool on] W fun e w' => ∃ (h2 : Int) (x2 : RN), TreePost (h2, x2, er) W e w' ∧ sameT h1 h2 x1 x2 = true) := by
  by_cases hbad : mbad ht x i tag ≠ 0
  · have hs : markP ht x i tag on = (0, zeroN, mbad ht x i tag) := by
      by_cases hc : checkP ht x ≠ 0
      · have h1 : idxP ht x i = checkP ht x := if_pos hc
        have h2 : mbad ht x i tag = checkP ht x := by unfold mbad; rw [h1, if_pos hc]
        rw [h2]; exact if_pos hc
      · have hm0 : markP ht x i tag on = if i < 0 ∨ 1073741824 ≤ i then (0, zeroN, 2) else if tag < 0 ∨ 1 < tag then (0, zeroN, 1) else if getP ht x i = 0 then (0, zeroN, 6) else (ht, updN (markLeaf tag.toNat on) i (ht.toNat - 1) x, 0) := if_neg hc
        by_cases hi : i < 0 ∨ 1073741824 ≤ i
        · have h1 : idxP ht x i = 2 := by unfold idxP; rw [if_neg hc, if_pos hi]
          have h2 : mbad ht x i tag = 2 := by unfold mbad; rw [h1]; rfl
          rw [h2, hm0, if_pos hi]
        · have h1 : idxP ht x i = 0 := by unfold idxP; rw [if_neg hc, if_neg hi]
          have h2 : mbad ht x i tag = if tag ≠ 0 ∧ tag ≠ 1 then 1 else if hitE (entT ht x) i = none then 6 else 0 := by unfold mbad; rw [h1]; rfl
          rw [hm0, if_neg hi]
          by_cases htg : tag < 0 ∨ 1 < tag
          · rw [h2, if_pos htg, if_pos (by omega)]
          · have hc0 : checkP ht x = 0 := Classical.not_not.1 hc
            have hb := check_neg hc0
            obtain ⟨h, rfl⟩ : ∃ h : Nat, ht = h := ⟨ht.toNat, by omega⟩
            obtain ⟨n, rfl⟩ : ∃ n : Nat, i = n := ⟨i.toNat, by omega⟩
            have hh := hit_none (check_iff.1 hc0) (n := n) (by omega)
            rw [if_neg (by omega)] at h2
            by_cases hg : getP h x n = 0
            · rw [h2, if_neg htg, if_pos hg, if_pos (hh.2 hg)]
            · rw [if_neg (fun e => hg (hh.1 e))] at h2
              exact absurd h2 hbad
    refine ⟨0, zeroN, mbad ht x i tag, hs, fun cs W hr => (r_mark_no cs ht x i tag on W hr hbad).mono fun e w' hp => ?_⟩
    rcases hp with ⟨-, hp⟩ | ⟨h0, -⟩
    · exact ⟨0, zeroN, hp, by decide⟩
    · exact absurd h0 hbad
  · have hb0 : mbad ht x i tag = 0 := Classical.not_not.1 hbad
    have hidx : idxP ht x i = 0 := Classical.byContradiction fun hh => hbad (by unfold mbad; rw [if_pos hh]; exact hh)
    have htg : tag = 0 ∨ tag = 1 := by
      have : ¬ (tag ≠ 0 ∧ tag ≠ 1) := fun hh => hbad (by unfold mbad; rw [if_neg (by simp [hidx]), if_pos hh]; decide)
      omega
    have hnn : ¬ hitE (entT ht x) i = none := fun hh => hbad (by unfold mbad; rw [if_neg (by simp [hidx]), if_neg (by omega), if_pos hh]; decide)
    have hcc : checkP ht x = 0 ∧ 0 ≤ i ∧ i < 1073741824 := by
      unfold idxP at hidx
      by_cases hc : checkP ht x ≠ 0
      · rw [if_pos hc] at hidx; exact absurd hidx hc
      · rw [if_neg hc] at hidx
        by_cases hi : i < 0 ∨ 1073741824 ≤ i
        · rw [if_pos hi] at hidx; cases hidx
        · exact ⟨Classical.not_not.1 hc, by omega, by omega⟩
    obtain ⟨hc, hi0, hi1⟩ := hcc
    have hb := check_neg hc
    obtain ⟨h, rfl⟩ : ∃ h : Nat, ht = h := ⟨ht.toNat, by omega⟩
    obtain ⟨n, rfl⟩ : ∃ n : Nat, i = n := ⟨i.toNat, by omega⟩
    obtain ⟨k, rfl⟩ : ∃ k : Nat, tag = k := ⟨tag.toNat, by omega⟩
    have hk : k < 2 := by omega
    have hT := check_iff.1 hc
    have hn : n < 1073741824 := by omega
    have hnR : n < RM := by rw [RM_val]; exact hn
    have hg : getP h x n ≠ 0 := fun e => hnn ((hit_none hT hn).2 e)
    have hv : (tl h x n).1 ≠ 0 := by rw [get_tl hT hn] at hg; exact hg
    have hmk : markP h x n k on = ((h : Int), updN (markLeaf k on) n (h - 1) x, 0) := by
      unfold markP
      rw [if_neg (by simp [hc]), if_neg (by omega), if_neg (by omega), if_neg hg]
      rfl
    have hok := mark_ok hT hn k on hv
    have hL : markL (entT h x) n k on = lsE RM 0 (updF (tl h x) n (markE k on (tl h x n))) := by rw [ent_ls hT]; exact markL_ls hnR hv k hk on
    have hwf : wfE (updF (tl h x) n (markE k on (tl h x n))) := updF_wf (tl_wf hT) n fun he => absurd (by rw [markE_v] at he; exact he) hv
    have hfar : ∀ j, RM ≤ j → updF (tl h x) n (markE k on (tl h x n)) j = e0 := fun j hj => by rw [updF, if_neg (by omega)]; exact tl_far hT hj
    obtain ⟨e, he⟩ : ∃ e, hitE (entT h x) n = some e := by
      cases hh : hitE (entT h x) n with
      | none => exact absurd hh hnn
      | some e => exact ⟨e, rfl⟩
    refine ⟨h, updN (markLeaf k on) n (h - 1) x, 0, hmk, fun cs W hr => ?_⟩
    refine (r_mark_yes cs h x n k hk on W hr hidx e he (by rw [hL]; exact ls_in _) (by rw [hL]; exact ls_asc _ _)).mono fun e w' hp => ?_
    rcases hp with ⟨hz, -⟩ | ⟨-, h2, x2, hp, hf⟩
    · exact absurd rfl hz
    · rw [hL] at hf
      have hbo := built_ok hwf hfar hf
      have hcn := tree_canon hok.1 hbo.1 fun j => by rw [hok.2 j, hbo.2 j]
      exact ⟨h2, x2, hp, sameT_of hcn.1 hcn.2⟩
theorem tagged_ref (ht : Int) (x : RN) (i tag : Int) : taggedP ht x i tag = tagE (entT ht x) i tag := by
  unfold tagE
  by_cases htg : tag = 0 ∨ tag = 1
  · have htb : (tag == 0 || tag == 1) = true := by rcases htg with rfl | rfl <;> rfl
    rw [htb, Bool.true_and]
    by_cases hin : checkP ht x = 0 ∧ 0 ≤ i ∧ i < 1073741824
    · obtain ⟨hc, hi0, hi1⟩ := hin
      have hb := check_neg hc
      obtain ⟨h, rfl⟩ : ∃ h : Nat, ht = h := ⟨ht.toNat, by omega⟩
      obtain ⟨n, rfl⟩ : ∃ n : Nat, i = n := ⟨i.toNat, by omega⟩
      obtain ⟨k, rfl⟩ : ∃ k : Nat, tag = k := ⟨tag.toNat, by omega⟩
      have hT := check_iff.1 hc
      rw [tagged_tl hT (by omega) (by omega), ent_ls hT, hit_ls (by rw [RM_val]; omega)]
      by_cases h0 : (tl h x n).1 = 0
      · rw [if_pos h0]; simp [h0]
      · rw [if_neg h0]
        dsimp only
        rw [has_sel (by omega) (by omega) 0, selB_has (by omega) (by omega)]
        simp [h0]
    · have h1 : taggedP ht x i tag = false := by
        unfold taggedP
        cases hl : leafP ht x i with
        | none => rfl
        | some y =>
          exfalso
          have h1 := leafP_in hl
          unfold leafP at hl
          split at hl
          · rename_i hh; exact hin ⟨hh.1, h1⟩
          · cases hl
      rw [h1]
      cases hh : hitE (entT ht x) i with
      | none => rfl
      | some e =>
        exfalso
        have h2 := hit_mem hh
        by_cases hc : checkP ht x = 0
        · have hb := check_neg hc
          obtain ⟨h, rfl⟩ : ∃ h : Nat, ht = h := ⟨ht.toNat, by omega⟩
          rw [ent_ls (check_iff.1 hc)] at h2
          have h3 := ls_low h2.1
          rw [RM_val] at h3
          exact hin ⟨hc, by omega, by omega⟩
        · rw [ent_bad hc] at h2; cases h2.1
  · have b0 : (tag == 0) = false := by simp; omega
    have b1 : (tag == 1) = false := by simp; omega
    rw [b0, b1]
    unfold taggedP
    cases leafP ht x i with
    | none => rfl
    | some y => rw [b0, b1]; rfl

set_option maxRecDepth 100000 in
set_option maxHeartbeats 1000000 in
theorem r_Tag (F : Int → RN → Int → Prop) (cs : Array Value) (ht : Int) (x : RN) (i tag : Int) (w : World) (h : RdVals w cs 12 (encR ht x))
    (hm : ∀ cs W, RdVals W cs 12 (encR ht x) → Calls Try.prog 87 #[.agg cs, .int .i64 i, .int .i64 tag, .bool true] W fun e w' => ∃ (h2 : Int) (x2 : RN) (er : Int), TreePost (h2, x2, er) W e w' ∧ F h2 x2 er) :
    Calls Try.prog 32 #[.agg cs, .int .i64 i, .int .i64 tag] w fun e w' => ∃ (h2 : Int) (x2 : RN) (er : Int), TreePost (h2, x2, er) w e w' ∧ F h2 x2 er := by
  obtain ⟨A, cap, rfl, hk⟩ := rdR_open h
  have HR := Lib.hid h
  have HM := Lib.hid hm
  clear h hk hm
  go_enter Try.func32, Try.ntmps32
  go_wp2_with (first
    | (go_at_call 87; refine (HM.out _ _ (HR.out.keep (below_keeps (by (repeat' (first | (with_reducible exact Below.refl _ _) | (with_reducible assumption) | (with_reducible refine below_plus ?_ ?_ _) | (with_reducible refine Below.alloc ?_ ?_ _) | (with_reducible refine Below.drew ?_) | (with_reducible refine below_drewN ?_ _) | (with_reducible refine Below.setCell ?_ ?_ _) | (first | omega | (simp only [World.size_alloc, size_plus, World.size_drew, World.size_setCell] <;> omega) | (simp <;> omega)) | omega | (simp; omega))))))).mono ?_; rintro e W ⟨ht', x', e', ⟨s', rfl, hr, hb⟩, hF⟩
       obtain ⟨A', cap', rfl, -⟩ := hr.slice
       obtain ⟨X, rfl⟩ := plus_of_below hb
       have HRR := Lib.hid hr
       have HFF := Lib.hid hF
       clear hb hr hF)
    | ((with_reducible refine wpList_storeR (.tmp 6) (.tmp 12) ?_ ?_ (w.heap.size + 1) ?_ ht' x' A' x'.n cap' ?_ (cellsR 0 zeroN (.slice none 0 0)) 28 ?_ rfl ?_); (with_reducible rfl); rfl; rfl; rfl; (exact (heap_plus _ _ _ (by simp)).trans (heap_alloc_here _ _ _ (by simp)))))
  refine bodyPost_ret (v := _) (results_tree Try.results32 _ _ (w.heap.size + 1) ht' x' (.slice A' x'.n cap') _ rfl (setRow_heap _ _ (cellsR 0 zeroN (.slice none 0 0)) _ _ _ ((heap_plus _ _ _ (by simp)).trans (heap_alloc_here _ _ _ (by simp)))) rfl) rfl ⟨ht', x', e', ⟨_, rfl, ?_, below_setRow (by (repeat' (first | (with_reducible exact Below.refl _ _) | (with_reducible assumption) | (with_reducible refine below_plus ?_ ?_ _) | (with_reducible refine Below.alloc ?_ ?_ _) | (with_reducible refine Below.drew ?_) | (with_reducible refine below_drewN ?_ _) | (with_reducible refine Below.setCell ?_ ?_ _) | (first | omega | (simp only [World.size_alloc, size_plus, World.size_drew, World.size_setCell] <;> omega) | (simp <;> omega)) | omega | (simp; omega)))) (by omega) _⟩, HFF.out⟩
  refine OwnK.mono (OwnK.frame _ HRR.out fun b hb _ => setRow_other _ _ _ _ ?_) fun b hb => ?_
  · simp at hb; omega
  · simp at hb; omega

set_option maxRecDepth 100000 in
set_option maxHeartbeats 1000000 in
theorem r_Untag (F : Int → RN → Int → Prop) (cs : Array Value) (ht : Int) (x : RN) (i tag : Int) (w : World) (h : RdVals w cs 12 (encR ht x))
    (hm : ∀ cs W, RdVals W cs 12 (encR ht x) → Calls Try.prog 87 #[.agg cs, .int .i64 i, .int .i64 tag, .bool false] W fun e w' => ∃ (h2 : Int) (x2 : RN) (er : Int), TreePost (h2, x2, er) W e w' ∧ F h2 x2 er) :
    Calls Try.prog 34 #[.agg cs, .int .i64 i, .int .i64 tag] w fun e w' => ∃ (h2 : Int) (x2 : RN) (er : Int), TreePost (h2, x2, er) w e w' ∧ F h2 x2 er := by
  obtain ⟨A, cap, rfl, hk⟩ := rdR_open h
  have HR := Lib.hid h
  have HM := Lib.hid hm
  clear h hk hm
  go_enter Try.func34, Try.ntmps34
  go_wp2_with (first
    | (go_at_call 87; refine (HM.out _ _ (HR.out.keep (below_keeps (by (repeat' (first | (with_reducible exact Below.refl _ _) | (with_reducible assumption) | (with_reducible refine below_plus ?_ ?_ _) | (with_reducible refine Below.alloc ?_ ?_ _) | (with_reducible refine Below.drew ?_) | (with_reducible refine below_drewN ?_ _) | (with_reducible refine Below.setCell ?_ ?_ _) | (first | omega | (simp only [World.size_alloc, size_plus, World.size_drew, World.size_setCell] <;> omega) | (simp <;> omega)) | omega | (simp; omega))))))).mono ?_; rintro e W ⟨ht', x', e', ⟨s', rfl, hr, hb⟩, hF⟩
       obtain ⟨A', cap', rfl, -⟩ := hr.slice
       obtain ⟨X, rfl⟩ := plus_of_below hb
       have HRR := Lib.hid hr
       have HFF := Lib.hid hF
       clear hb hr hF)
    | ((with_reducible refine wpList_storeR (.tmp 6) (.tmp 12) ?_ ?_ (w.heap.size + 1) ?_ ht' x' A' x'.n cap' ?_ (cellsR 0 zeroN (.slice none 0 0)) 28 ?_ rfl ?_); (with_reducible rfl); rfl; rfl; rfl; (exact (heap_plus _ _ _ (by simp)).trans (heap_alloc_here _ _ _ (by simp)))))
  refine bodyPost_ret (v := _) (results_tree Try.results34 _ _ (w.heap.size + 1) ht' x' (.slice A' x'.n cap') _ rfl (setRow_heap _ _ (cellsR 0 zeroN (.slice none 0 0)) _ _ _ ((heap_plus _ _ _ (by simp)).trans (heap_alloc_here _ _ _ (by simp)))) rfl) rfl ⟨ht', x', e', ⟨_, rfl, ?_, below_setRow (by (repeat' (first | (with_reducible exact Below.refl _ _) | (with_reducible assumption) | (with_reducible refine below_plus ?_ ?_ _) | (with_reducible refine Below.alloc ?_ ?_ _) | (with_reducible refine Below.drew ?_) | (with_reducible refine below_drewN ?_ _) | (with_reducible refine Below.setCell ?_ ?_ _) | (first | omega | (simp only [World.size_alloc, size_plus, World.size_drew, World.size_setCell] <;> omega) | (simp <;> omega)) | omega | (simp; omega)))) (by omega) _⟩, HFF.out⟩
  refine OwnK.mono (OwnK.frame _ HRR.out fun b hb _ => setRow_other _ _ _ _ ?_) fun b hb => ?_
  · simp at hb; omega
  · simp at hb; omega
end Go.Proofs.Ytcicfijpfhbcaaa
