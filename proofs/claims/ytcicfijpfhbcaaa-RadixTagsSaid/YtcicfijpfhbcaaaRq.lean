/-
  The reference's Next and Count.
-/
import Derived.Test.YtcicfijpfhbcaaaRg
namespace Go.Proofs.Ytcicfijpfhbcaaa
set_option linter.unusedSimpArgs false
set_option linter.unusedVariables false
set_option linter.unusedSectionVars false
open Go.RowKit

/-- The first entry from k on that has the tag. -/
def fromE (l : List E3) (tag : Int) (k : Nat) : Option E3 := (l.drop k).find? fun e => hasB tag e.2.2
def idxE : Option E3 → Int
  | some e => e.1
  | none => -1
theorem fromE_hit {l : List E3} {tag : Int} {k : Nat} {e : E3} (h : l[k]? = some e) (hb : hasB tag e.2.2 = true) : fromE l tag k = some e := by
  obtain ⟨hlt, rfl⟩ := List.getElem?_eq_some_iff.1 h
  rw [fromE, List.drop_eq_getElem_cons hlt, List.find?_cons_of_pos (p := fun e : E3 => hasB tag e.2.2) hb]
theorem fromE_miss {l : List E3} {tag : Int} {k : Nat} {e : E3} (h : l[k]? = some e) (hb : hasB tag e.2.2 = false) : fromE l tag k = fromE l tag (k + 1) := by
  obtain ⟨hlt, rfl⟩ := List.getElem?_eq_some_iff.1 h
  rw [fromE, List.drop_eq_getElem_cons hlt, List.find?_cons_of_neg (p := fun e : E3 => hasB tag e.2.2) (by rw [hb]; decide)]
  rfl
theorem fromE_end (l : List E3) (tag : Int) : fromE l tag l.length = none := by simp [fromE]
def refNext (ht : Int) (x : RN) (frm tag : Int) : Int := if frm < 0 ∨ tag < -1 ∨ 1 < tag then -1 else idxE (fromE (entT ht x) tag (atP (entT ht x) frm))

set_option maxRecDepth 100000 in
set_option maxHeartbeats 1000000 in
theorem r_Next (cs : Array Value) (ht : Int) (x : RN) (frm tag : Int) (w : World) (h : RdVals w cs 12 (encR ht x)) :
    Calls Try.prog 36 #[.agg cs, .int .i64 frm, .int .i64 tag] w fun e w' => e = .returned (.int .i64 (refNext ht x frm tag)) ∧ Below w.heap.size w w' := by
  obtain ⟨A, cap, rfl, hk⟩ := rdR_open h
  have HR := Lib.hid h
  clear h hk
  by_cases hno : frm < 0 ∨ tag < -1 ∨ 1 < tag
  · have hp : Hid (refNext ht x frm tag = -1) := if_pos hno
    have hcase : frm < 0 ∨ (0 ≤ frm ∧ tag < -1) ∨ (0 ≤ frm ∧ -1 ≤ tag ∧ 1 < tag) := by omega
    clear hno
    rcases hcase with h1 | ⟨h1, h2⟩ | ⟨h1, h2, h3⟩
    all_goals
      go_enter Try.func36, Try.ntmps36
      go_wp2_with fail
      go_ret
      exact ⟨by rw [hp.out]; rfl, by (repeat' (first | (with_reducible exact Below.refl _ _) | (with_reducible assumption) | (with_reducible refine below_plus ?_ ?_ _) | (with_reducible refine Below.alloc ?_ ?_ _) | (with_reducible refine Below.drew ?_) | (with_reducible refine below_drewN ?_ _) | (with_reducible refine Below.setCell ?_ ?_ _) | (first | omega | (simp only [World.size_alloc, size_plus, World.size_drew, World.size_setCell] <;> omega) | (simp <;> omega)) | omega | (simp; omega)))⟩
  · have hp : Hid (refNext ht x frm tag = idxE (fromE (entT ht x) tag (atP (entT ht x) frm))) := if_neg hno
    have h1 : 0 ≤ frm := by omega
    have h2 : -1 ≤ tag := by omega
    have h3 : tag ≤ 1 := by omega
    have hlen := entT_len ht x
    have HE : Hid (∀ cs W, RdVals W cs 12 (encR ht x) → Calls Try.prog 78 #[.agg cs] W (EntPost (entT ht x) W)) := fun cs W hr => r_Entries cs ht x W hr
    clear hno
    generalize entT ht x = l at *
    have hat := atP_le l frm
    have hmax : (l.length : Int) ≤ 1073741824 := by omega
    go_enter Try.func36, Try.ntmps36
    go_wp2_with (first
      | (go_at_call 78; refine (HE.out _ _ ?_).mono ?_; exact HR.out.keep (below_keeps (by (repeat' (first | (with_reducible exact Below.refl _ _) | (with_reducible assumption) | (with_reducible refine below_plus ?_ ?_ _) | (with_reducible refine Below.alloc ?_ ?_ _) | (with_reducible refine Below.drew ?_) | (with_reducible refine below_drewN ?_ _) | (with_reducible refine Below.setCell ?_ ?_ _) | (first | omega | (simp only [World.size_alloc, size_plus, World.size_drew, World.size_setCell] <;> omega) | (simp <;> omega)) | omega | (simp; omega))))); rintro e W ⟨v, rfl, ho, hb⟩; (obtain ⟨A1, cap1, rfl, hc1, hc2⟩ := ho.slice); have HO := Lib.hid ho; have HB := Lib.hid (below_trans (below_alloc w _) (hb.mono (by (first | omega | (simp only [World.size_alloc, size_plus, World.size_drew, World.size_setCell] <;> omega) | (simp <;> omega))))); clear ho hb)
      | (go_at_call 79; refine (r_at _ l frm _ _ HO.out).mono ?_; rintro e W' ⟨rfl, rfl⟩))
    go_loopw [8] (fun k wr => ∃ n : Nat, n ≤ l.length ∧ k = .int .i64 n ∧ fromE l tag n = fromE l tag (atP l frm) ∧ Below W.heap.size W wr) (fun k _ => l.length - (intOf k).toNat)
    case atStart => exact ⟨_, hat, rfl, rfl, Below.refl _ _⟩
    case round =>
      obtain ⟨n, hn, rfl, hf, hbl⟩ := hrel
      rcases Nat.lt_or_ge n l.length with hlt | hge
      · have hg : l[n]? = some l[n] := List.getElem?_eq_getElem hlt
        have hown := HO.out.below hbl
        obtain ⟨g, cap', hs, -, hgw, c0, c1, c2⟩ := hown.at hg
        injection hs with e1 e2 e3
        subst e1 e3
        have HBL := Lib.hid hbl
        clear e2 hown hbl
        generalize l[n] = e at *
        cases hb : hasB tag e.2.2
        · have hf' := Lib.hid ((fromE_miss hg hb).symm.trans hf)
          clear hg hf
          go_wp2_with (go_at_call 88; refine (r_has e tag _ h2 h3).mono ?_; rintro e w' ⟨rfl, hb⟩; (first | (obtain ⟨X, rfl⟩ := plus_again hb) | (obtain ⟨X, rfl⟩ := plus_of_below hb)); clear hb; rw [hb])
          exact ⟨⟨n + 1, by omega, by go_num, hf'.out, below_plus HBL.out HBL.out.size _⟩, by simp [intOf]; omega⟩
        · have hf' : Hid (idxE (fromE l tag (atP l frm)) = e.1) := by rw [← hf, fromE_hit hg hb]; rfl
          clear hg hf
          go_wp2_with (go_at_call 88; refine (r_has e tag _ h2 h3).mono ?_; rintro e w' ⟨rfl, hb⟩; (first | (obtain ⟨X, rfl⟩ := plus_again hb) | (obtain ⟨X, rfl⟩ := plus_of_below hb)); clear hb; rw [hb])
          go_ret
          exact ⟨by rw [hp.out, hf'.out]; rfl, below_plus (HB.out.trans (HBL.out.mono HB.out.size)) (Nat.le_trans HB.out.size HBL.out.size) _⟩
      · obtain rfl : n = l.length := by omega
        have hf' : Hid (idxE (fromE l tag (atP l frm)) = -1) := by rw [← hf, fromE_end]; rfl
        have HBL := Lib.hid hbl
        clear hf hbl
        go_wp2_with fail
        go_ret
        exact ⟨by rw [hp.out, hf'.out]; rfl, HB.out.trans (HBL.out.mono HB.out.size)⟩

def cntE (l : List E3) (tag : Int) (k : Nat) : Nat := ((l.take k).filter fun e => hasB tag e.2.2).length
theorem cntE_hit {l : List E3} {tag : Int} {k : Nat} {e : E3} (h : l[k]? = some e) : cntE l tag (k + 1) = cntE l tag k + if hasB tag e.2.2 then 1 else 0 := by
  unfold cntE
  rw [List.take_add_one, h, List.filter_append, List.length_append]
  congr 1
  show (List.filter _ [e]).length = _
  cases hb : hasB tag e.2.2 <;> simp [hb]
theorem cntE_le (l : List E3) (tag : Int) (k : Nat) : cntE l tag k ≤ k := Nat.le_trans (List.length_filter_le _ _) (by rw [List.length_take]; omega)
def refCount (ht : Int) (x : RN) (tag : Int) : Int := if tag < -1 ∨ 1 < tag then 0 else (cntE (entT ht x) tag (entT ht x).length : Int)

set_option maxRecDepth 100000 in
set_option maxHeartbeats 1000000 in
theorem r_Count (cs : Array Value) (ht : Int) (x : RN) (tag : Int) (w : World) (h : RdVals w cs 12 (encR ht x)) :
    Calls Try.prog 37 #[.agg cs, .int .i64 tag] w fun e w' => e = .returned (.int .i64 (refCount ht x tag)) ∧ Below w.heap.size w w' := by
  obtain ⟨A, cap, rfl, hk⟩ := rdR_open h
  have HR := Lib.hid h
  clear h hk
  by_cases hno : tag < -1 ∨ 1 < tag
  · have hp : Hid (refCount ht x tag = 0) := if_pos hno
    have hcase : tag < -1 ∨ (-1 ≤ tag ∧ 1 < tag) := by omega
    clear hno
    rcases hcase with h1 | ⟨h1, h2⟩
    all_goals
      go_enter Try.func37, Try.ntmps37
      go_wp2_with fail
      go_ret
      exact ⟨by rw [hp.out]; rfl, by (repeat' (first | (with_reducible exact Below.refl _ _) | (with_reducible assumption) | (with_reducible refine below_plus ?_ ?_ _) | (with_reducible refine Below.alloc ?_ ?_ _) | (with_reducible refine Below.drew ?_) | (with_reducible refine below_drewN ?_ _) | (with_reducible refine Below.setCell ?_ ?_ _) | (first | omega | (simp only [World.size_alloc, size_plus, World.size_drew, World.size_setCell] <;> omega) | (simp <;> omega)) | omega | (simp; omega)))⟩
  · have hp : Hid (refCount ht x tag = (cntE (entT ht x) tag (entT ht x).length : Int)) := if_neg hno
    have h2 : -1 ≤ tag := by omega
    have h3 : tag ≤ 1 := by omega
    have hlen := entT_len ht x
    have HE : Hid (∀ cs W, RdVals W cs 12 (encR ht x) → Calls Try.prog 78 #[.agg cs] W (EntPost (entT ht x) W)) := fun cs W hr => r_Entries cs ht x W hr
    clear hno
    generalize entT ht x = l at *
    have hmax : (l.length : Int) ≤ 1073741824 := by omega
    go_enter Try.func37, Try.ntmps37
    go_wp2_with (go_at_call 78; refine (HE.out _ _ ?_).mono ?_; exact HR.out.keep (below_keeps (by (repeat' (first | (with_reducible exact Below.refl _ _) | (with_reducible assumption) | (with_reducible refine below_plus ?_ ?_ _) | (with_reducible refine Below.alloc ?_ ?_ _) | (with_reducible refine Below.drew ?_) | (with_reducible refine below_drewN ?_ _) | (with_reducible refine Below.setCell ?_ ?_ _) | (first | omega | (simp only [World.size_alloc, size_plus, World.size_drew, World.size_setCell] <;> omega) | (simp <;> omega)) | omega | (simp; omega))))); rintro e W ⟨v, rfl, ho, hb⟩; (obtain ⟨A1, cap1, rfl, hc1, hc2⟩ := ho.slice); have HO := Lib.hid ho; have HB := Lib.hid (below_trans (below_alloc w _) (hb.mono (by (first | omega | (simp only [World.size_alloc, size_plus, World.size_drew, World.size_setCell] <;> omega) | (simp <;> omega))))); clear ho hb)
    go_loopw [5, 7] (fun c k wr => ∃ n : Nat, n ≤ l.length ∧ k = .int .i64 n ∧ c = .int .i64 (cntE l tag n) ∧ Below W.heap.size W wr) (fun _ k _ => l.length - (intOf k).toNat)
    case atStart => exact ⟨0, by omega, rfl, rfl, Below.refl _ _⟩
    case round =>
      obtain ⟨n, hn, rfl, rfl, hbl⟩ := hrel
      rcases Nat.lt_or_ge n l.length with hlt | hge
      · have hg : l[n]? = some l[n] := List.getElem?_eq_getElem hlt
        have hown := HO.out.below hbl
        obtain ⟨g, cap', hs, -, hgw, c0, c1, c2⟩ := hown.at hg
        injection hs with e1 e2 e3
        subst e1 e3
        have HBL := Lib.hid hbl
        have hcl := cntE_le l tag n
        have hst := cntE_hit (tag := tag) hg
        clear e2 hown hbl hg
        generalize l[n] = e at *
        cases hb : hasB tag e.2.2
        · have hst' : Hid (cntE l tag (n + 1) = cntE l tag n) := by rw [hst, hb]; rfl
          clear hst
          generalize cntE l tag n = c at *
          go_wp2_with (go_at_call 88; refine (r_has e tag _ h2 h3).mono ?_; rintro e w' ⟨rfl, hb⟩; (first | (obtain ⟨X, rfl⟩ := plus_again hb) | (obtain ⟨X, rfl⟩ := plus_of_below hb)); clear hb; rw [hb])
          exact ⟨⟨n + 1, by omega, by go_num, by rw [hst'.out], below_plus HBL.out HBL.out.size _⟩, by simp [intOf]; omega⟩
        · have hst' : Hid (cntE l tag (n + 1) = cntE l tag n + 1) := by rw [hst, hb]; rfl
          clear hst
          generalize cntE l tag n = c at *
          go_wp2_with (go_at_call 88; refine (r_has e tag _ h2 h3).mono ?_; rintro e w' ⟨rfl, hb⟩; (first | (obtain ⟨X, rfl⟩ := plus_again hb) | (obtain ⟨X, rfl⟩ := plus_of_below hb)); clear hb; rw [hb])
          exact ⟨⟨n + 1, by omega, by go_num, by rw [hst'.out]; push_cast; rfl, below_plus HBL.out HBL.out.size _⟩, by simp [intOf]; omega⟩
      · obtain rfl : n = l.length := by omega
        have HBL := Lib.hid hbl
        clear hbl
        go_wp2_with fail
        go_ret
        exact ⟨by rw [hp.out]; rfl, HB.out.trans (HBL.out.mono HB.out.size)⟩
end Go.Proofs.Ytcicfijpfhbcaaa
