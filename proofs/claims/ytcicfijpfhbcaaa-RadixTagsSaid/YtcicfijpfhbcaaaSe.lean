/-
  The reference's index, Get, Set.
-/
import Derived.Test.YtcicfijpfhbcaaaSl
import Derived.Test.YtcicfijpfhbcaaaRq
import Derived.Test.YtcicfijpfhbcaaaAk
namespace Go.Proofs.Ytcicfijpfhbcaaa
set_option linter.unusedSimpArgs false
set_option linter.unusedVariables false
set_option linter.unusedSectionVars false
open Go.RowKit

/-- What the reference's index answers. -/
def idxP (ht : Int) (x : RN) (i : Int) : Int := if checkP ht x ≠ 0 then checkP ht x else if i < 0 ∨ 1073741824 ≤ i then 2 else 0
set_option maxRecDepth 100000 in
set_option maxHeartbeats 1000000 in
theorem r_index (cs : Array Value) (ht : Int) (x : RN) (i : Int) (w : World) (h : RdVals w cs 12 (encR ht x)) :
    Calls Try.prog 77 #[.agg cs, .int .i64 i] w fun e w' => e = .returned (.int .i64 (idxP ht x i)) ∧ Below w.heap.size w w' := by
  obtain ⟨A, cap, rfl, hk⟩ := rdR_open h
  have HR := Lib.hid h
  clear h hk
  by_cases hc : checkP ht x = 0
  · have hcb : (checkP ht x != 0) = false := by simp [hc]
    have hcase : i < 0 ∨ (0 ≤ i ∧ 1073741824 ≤ i) ∨ (0 ≤ i ∧ i < 1073741824) := by omega
    rcases hcase with h1 | ⟨h1, h2⟩ | ⟨h1, h2⟩
    all_goals
      have hp : Hid (idxP ht x i = if i < 0 ∨ 1073741824 ≤ i then 2 else 0) := by unfold Hid idxP; rw [if_neg (by simp [hc])]
      go_enter Try.func77, Try.ntmps77
      go_wp2_with (go_at_call 20; refine (r_Check _ ht x _ ?_).mono ?_; exact HR.out.keep (below_keeps (by (repeat' (first | (with_reducible exact Below.refl _ _) | (with_reducible assumption) | (with_reducible refine below_plus ?_ ?_ _) | (with_reducible refine Below.alloc ?_ ?_ _) | (with_reducible refine Below.drew ?_) | (with_reducible refine below_drewN ?_ _) | (with_reducible refine Below.setCell ?_ ?_ _) | (first | omega | (simp only [World.size_alloc, size_plus, World.size_drew, World.size_setCell] <;> omega) | (simp <;> omega)) | omega | (simp; omega))))); rintro e w' ⟨rfl, hb⟩; (first | (obtain ⟨X, rfl⟩ := plus_again hb) | (obtain ⟨X, rfl⟩ := plus_of_below hb)); clear hb)
      go_ret
      refine ⟨?_, by (repeat' (first | (with_reducible exact Below.refl _ _) | (with_reducible assumption) | (with_reducible refine below_plus ?_ ?_ _) | (with_reducible refine Below.alloc ?_ ?_ _) | (with_reducible refine Below.drew ?_) | (with_reducible refine below_drewN ?_ _) | (with_reducible refine Below.setCell ?_ ?_ _) | (first | omega | (simp only [World.size_alloc, size_plus, World.size_drew, World.size_setCell] <;> omega) | (simp <;> omega)) | omega | (simp; omega)))⟩
      rw [hp.out]
      first
        | (rw [if_pos (by omega)]; rfl)
        | (rw [if_neg (by omega)]; rfl)
  · have hp : Hid (idxP ht x i = checkP ht x) := if_pos hc
    have hcb : (checkP ht x != 0) = true := by simp [hc]
    clear hc
    go_enter Try.func77, Try.ntmps77
    go_wp2_with (go_at_call 20; refine (r_Check _ ht x _ ?_).mono ?_; exact HR.out.keep (below_keeps (by (repeat' (first | (with_reducible exact Below.refl _ _) | (with_reducible assumption) | (with_reducible refine below_plus ?_ ?_ _) | (with_reducible refine Below.alloc ?_ ?_ _) | (with_reducible refine Below.drew ?_) | (with_reducible refine below_drewN ?_ _) | (with_reducible refine Below.setCell ?_ ?_ _) | (first | omega | (simp only [World.size_alloc, size_plus, World.size_drew, World.size_setCell] <;> omega) | (simp <;> omega)) | omega | (simp; omega))))); rintro e w' ⟨rfl, hb⟩; (first | (obtain ⟨X, rfl⟩ := plus_again hb) | (obtain ⟨X, rfl⟩ := plus_of_below hb)); clear hb)
    go_ret
    exact ⟨by rw [hp.out]; rfl, by (repeat' (first | (with_reducible exact Below.refl _ _) | (with_reducible assumption) | (with_reducible refine below_plus ?_ ?_ _) | (with_reducible refine Below.alloc ?_ ?_ _) | (with_reducible refine Below.drew ?_) | (with_reducible refine below_drewN ?_ _) | (with_reducible refine Below.setCell ?_ ?_ _) | (first | omega | (simp only [World.size_alloc, size_plus, World.size_drew, World.size_setCell] <;> omega) | (simp <;> omega)) | omega | (simp; omega)))⟩

def valE : Option E3 → Int
  | some e => e.2.1
  | none => 0
theorem hit_some {l : List E3} {i : Int} {e : E3} (h : l[atP l i]? = some e) (he : e.1 = i) : hitE l i = some e := by unfold hitE; rw [h]; exact if_pos he
theorem hit_miss {l : List E3} {i : Int} {e : E3} (h : l[atP l i]? = some e) (he : ¬ e.1 = i) : hitE l i = none := by unfold hitE; rw [h]; exact if_neg he
theorem hit_end {l : List E3} {i : Int} (h : l[atP l i]? = none) : hitE l i = none := by unfold hitE; rw [h]

set_option maxRecDepth 100000 in
set_option maxHeartbeats 1000000 in
theorem r_Get (cs : Array Value) (ht : Int) (x : RN) (i : Int) (w : World) (h : RdVals w cs 12 (encR ht x)) :
    Calls Try.prog 27 #[.agg cs, .int .i64 i] w fun e w' => e = .returned (.int .i64 (valE (hitE (entT ht x) i))) ∧ Below w.heap.size w w' := by
  obtain ⟨A, cap, rfl, hk⟩ := rdR_open h
  have HR := Lib.hid h
  clear h hk
  have hlen := entT_len ht x
  have HE : Hid (∀ cs W, RdVals W cs 12 (encR ht x) → Calls Try.prog 78 #[.agg cs] W (EntPost (entT ht x) W)) := fun cs W hr => r_Entries cs ht x W hr
  generalize entT ht x = l at *
  have hat := atP_le l i
  have hmax : (l.length : Int) ≤ 1073741824 := by omega
  rcases Nat.lt_or_ge (atP l i) l.length with hlt | hge
  · obtain ⟨e, he⟩ : ∃ e, l[atP l i]? = some e := ⟨_, List.getElem?_eq_getElem hlt⟩
    have HAT : Hid (∀ W base v, OwnE W base l v → ∃ g cap, v = .slice (some ⟨g, 0, none⟩) l.length cap ∧ g < W.heap.size ∧ W.cell? ⟨g, atP l i * 3, none⟩ = some (.int .i64 e.1) ∧ W.cell? ⟨g, atP l i * 3 + 1, none⟩ = some (.int .i64 e.2.1)) := fun W base v ho => by
      obtain ⟨g, cap, h1, -, h2, h3, h4, -⟩ := ho.at he
      exact ⟨g, cap, h1, h2, h3, h4⟩
    have HRA : Hid (∀ v base W, OwnE W base l v → Calls Try.prog 79 #[v, .int .i64 i] W fun e w' => e = .returned (.int .i64 (atP l i : Int)) ∧ W = w') := fun v base W ho => r_at v l i base W ho
    by_cases hi : e.1 = i
    · have hp : Hid (valE (hitE l i) = e.2.1) := by rw [Hid, hit_some he hi]; rfl
      have hib : (e.1 == i) = true := by simp [hi]
      clear he hi hat
      generalize atP l i = p at *
      have hpl : (p : Int) < (l.length : Int) := by omega
      go_enter Try.func27, Try.ntmps27
      go_wp2_with (first
        | (go_at_call 78; refine (HE.out _ _ ?_).mono ?_; exact HR.out.keep (below_keeps (by (repeat' (first | (with_reducible exact Below.refl _ _) | (with_reducible assumption) | (with_reducible refine below_plus ?_ ?_ _) | (with_reducible refine Below.alloc ?_ ?_ _) | (with_reducible refine Below.drew ?_) | (with_reducible refine below_drewN ?_ _) | (with_reducible refine Below.setCell ?_ ?_ _) | (first | omega | (simp only [World.size_alloc, size_plus, World.size_drew, World.size_setCell] <;> omega) | (simp <;> omega)) | omega | (simp; omega))))); rintro e W ⟨v, rfl, ho, hb⟩; (obtain ⟨g, cap1, rfl, hgw, c0, c1⟩ := HAT.out _ _ _ ho); have HO := Lib.hid ho; have HB := Lib.hid (below_trans (below_alloc w _) (hb.mono (by (first | omega | (simp only [World.size_alloc, size_plus, World.size_drew, World.size_setCell] <;> omega) | (simp <;> omega))))); clear ho hb)
        | (go_at_call 79; refine (HRA.out _ _ _ HO.out).mono ?_; rintro e W' ⟨rfl, rfl⟩))
      go_ret
      exact ⟨by rw [hp.out]; rfl, HB.out⟩
    · have hp : Hid (valE (hitE l i) = 0) := by rw [Hid, hit_miss he hi]; rfl
      have hib : (e.1 == i) = false := by simp [hi]
      clear he hi hat
      generalize atP l i = p at *
      have hpl : (p : Int) < (l.length : Int) := by omega
      go_enter Try.func27, Try.ntmps27
      go_wp2_with (first
        | (go_at_call 78; refine (HE.out _ _ ?_).mono ?_; exact HR.out.keep (below_keeps (by (repeat' (first | (with_reducible exact Below.refl _ _) | (with_reducible assumption) | (with_reducible refine below_plus ?_ ?_ _) | (with_reducible refine Below.alloc ?_ ?_ _) | (with_reducible refine Below.drew ?_) | (with_reducible refine below_drewN ?_ _) | (with_reducible refine Below.setCell ?_ ?_ _) | (first | omega | (simp only [World.size_alloc, size_plus, World.size_drew, World.size_setCell] <;> omega) | (simp <;> omega)) | omega | (simp; omega))))); rintro e W ⟨v, rfl, ho, hb⟩; (obtain ⟨g, cap1, rfl, hgw, c0, c1⟩ := HAT.out _ _ _ ho); have HO := Lib.hid ho; have HB := Lib.hid (below_trans (below_alloc w _) (hb.mono (by (first | omega | (simp only [World.size_alloc, size_plus, World.size_drew, World.size_setCell] <;> omega) | (simp <;> omega))))); clear ho hb)
        | (go_at_call 79; refine (HRA.out _ _ _ HO.out).mono ?_; rintro e W' ⟨rfl, rfl⟩))
      go_ret
      exact ⟨by rw [hp.out]; rfl, HB.out⟩
  · have hp : Hid (valE (hitE l i) = 0) := by rw [Hid, hit_end (List.getElem?_eq_none hge)]; rfl
    have HRA : Hid (∀ v base W, OwnE W base l v → Calls Try.prog 79 #[v, .int .i64 i] W fun e w' => e = .returned (.int .i64 (l.length : Int)) ∧ W = w') := fun v base W ho => by
      have := r_at v l i base W ho
      rw [show atP l i = l.length by omega] at this; exact this
    clear hge hat
    go_enter Try.func27, Try.ntmps27
    go_wp2_with (first
      | (go_at_call 78; refine (HE.out _ _ ?_).mono ?_; exact HR.out.keep (below_keeps (by (repeat' (first | (with_reducible exact Below.refl _ _) | (with_reducible assumption) | (with_reducible refine below_plus ?_ ?_ _) | (with_reducible refine Below.alloc ?_ ?_ _) | (with_reducible refine Below.drew ?_) | (with_reducible refine below_drewN ?_ _) | (with_reducible refine Below.setCell ?_ ?_ _) | (first | omega | (simp only [World.size_alloc, size_plus, World.size_drew, World.size_setCell] <;> omega) | (simp <;> omega)) | omega | (simp; omega))))); rintro e W ⟨v, rfl, ho, hb⟩; (obtain ⟨A1, cap1, rfl, -, -⟩ := ho.slice); have HO := Lib.hid ho; have HB := Lib.hid (below_trans (below_alloc w _) (hb.mono (by (first | omega | (simp only [World.size_alloc, size_plus, World.size_drew, World.size_setCell] <;> omega) | (simp <;> omega))))); clear ho hb)
      | (go_at_call 79; refine (HRA.out _ _ _ HO.out).mono ?_; rintro e W' ⟨rfl, rfl⟩))
    go_ret
    exact ⟨by rw [hp.out]; rfl, HB.out⟩
end Go.Proofs.Ytcicfijpfhbcaaa
