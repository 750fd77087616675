/-
  The reference's Entries, has, Next, Count.
-/
/-
  The reference's Next and Count.
-/
/-
  Lists of numbers: the reference's List, radix.List.
-/
/-
  radix.List.
-/
/-
  What the reference's Next, Count and List say, in terms of the entries in order. No program.
-/
import Derived.Test.YtcicfijpfhbcaaaRe
import Derived.Test.YtcicfijpfhbcaaaCk
import Derived.Test.YtcicfijpfhbcaaaNx
namespace Go.Proofs.Ytcicfijpfhbcaaa
set_option linter.unusedSimpArgs false
set_option linter.unusedVariables false
set_option linter.unusedSectionVars false
open Go.RowKit

/-- The reference's entries of a tree. -/
def entT (ht : Int) (x : RN) : List E3 := if checkP ht x ≠ 0 ∨ ht = 0 then [] else ent3 (ht.toNat - 1) x 0
theorem entT_len (ht : Int) (x : RN) : (entT ht x).length ≤ 1073741824 := by
  unfold entT
  split
  · simp
  · rename_i h
    have hc : checkP ht x = 0 := by omega
    have hb := check_neg hc
    have h1 := ent3_len (ht.toNat - 1) x 0
    have h2 : (8 : Nat) ^ (ht.toNat - 1 + 1) ≤ 8 ^ 10 := pow8_mono (by omega)
    have h9 : (8 : Nat) ^ 10 = 1073741824 := by decide
    omega

set_option maxRecDepth 100000 in
set_option maxHeartbeats 1000000 in
theorem r_Entries (cs : Array Value) (ht : Int) (x : RN) (w : World) (h : RdVals w cs 12 (encR ht x)) :
    Calls Try.prog 78 #[.agg cs] w (EntPost (entT ht x) w) := by
  obtain ⟨A, cap, rfl, hk⟩ := rdR_open h
  have HR := Lib.hid h
  by_cases hc : checkP ht x = 0
  · by_cases hz : ht = 0
    · have he : entT ht x = [] := by unfold entT; rw [if_pos (.inr hz)]
      rw [he]
      have hcb : (checkP ht x != 0) = false := by simp [hc]
      have hzb : (ht == 0) = true := by simp [hz]
      clear h hk hc hz he
      go_enter Try.func78, Try.ntmps78
      go_wp2_with (go_at_call 20; refine (r_Check _ ht x _ ?_).mono ?_; exact HR.out.keep (below_keeps (by (repeat' (first | (with_reducible exact Below.refl _ _) | (with_reducible assumption) | (with_reducible refine below_plus ?_ ?_ _) | (with_reducible refine Below.alloc ?_ ?_ _) | (with_reducible refine Below.drew ?_) | (with_reducible refine below_drewN ?_ _) | (with_reducible refine Below.setCell ?_ ?_ _) | (first | omega | (simp only [World.size_alloc, size_plus, World.size_drew, World.size_setCell] <;> omega) | (simp <;> omega)) | omega | (simp; omega))))); rintro e w' ⟨rfl, hb⟩; (first | (obtain ⟨X, rfl⟩ := plus_again hb) | (obtain ⟨X, rfl⟩ := plus_of_below hb)); clear hb)
      go_ret
      exact ⟨_, rfl, OwnE.nil _ _, by (repeat' (first | (with_reducible exact Below.refl _ _) | (with_reducible assumption) | (with_reducible refine below_plus ?_ ?_ _) | (with_reducible refine Below.alloc ?_ ?_ _) | (with_reducible refine Below.drew ?_) | (with_reducible refine below_drewN ?_ _) | (with_reducible refine Below.setCell ?_ ?_ _) | (first | omega | (simp only [World.size_alloc, size_plus, World.size_drew, World.size_setCell] <;> omega) | (simp <;> omega)) | omega | (simp; omega)))⟩
    · have hb := check_neg hc
      obtain ⟨m, rfl⟩ : ∃ m : Nat, ht = (m : Int) + 1 := ⟨(ht - 1).toNat, by omega⟩
      have he : entT ((m : Int) + 1) x = ent3 m x 0 := by
        unfold entT
        rw [if_neg (by omega), show (((m : Int) + 1).toNat - 1) = m by omega]
      rw [he]
      have hok : okN m x := by
        have hT : okT (m + 1) x := check_iff.1 (by rw [← hc]; rfl)
        rcases hT with h | h
        · omega
        · exact h.2.2.1
      have hp8 : (0 : Int) + 8 ^ (m + 1) ≤ 1073741824 := by
        have h1 : (8 : Nat) ^ (m + 1) ≤ 8 ^ 10 := pow8_mono (by omega)
        have h9 : (8 : Nat) ^ 10 = 1073741824 := by decide
        rw [h9] at h1
        have h2 : ((8 ^ (m + 1) : Nat) : Int) ≤ 1073741824 := Int.ofNat_le.2 h1
        rw [Int.natCast_pow] at h2
        rw [Int.zero_add]; exact h2
      have HN := Lib.hid (rdN_shut hk)
      have HE : Hid (∀ W, Below w.heap.size w W → Calls Try.prog 101 #[.agg (cellsN x (.slice A x.n cap)), .int .i64 ((m : Int) + 1), .int .i64 0] W (EntPost (ent3 m x 0) W)) := fun W hW =>
        r_entries m (by omega) _ x 0 W (HN.out.keep (below_keeps hW)) hok (by omega) hp8
      have hcb : (checkP ((m : Int) + 1) x != 0) = false := by simp [hc]
      have hzb : ((m : Int) + 1 == 0) = false := by simp; omega
      clear h hk hc hz he hok hp8 hb HN
      go_enter Try.func78, Try.ntmps78
      go_wp2_with (first
        | (go_at_call 20; refine (r_Check _ ((m : Int) + 1) x _ ?_).mono ?_; exact HR.out.keep (below_keeps (by (repeat' (first | (with_reducible exact Below.refl _ _) | (with_reducible assumption) | (with_reducible refine below_plus ?_ ?_ _) | (with_reducible refine Below.alloc ?_ ?_ _) | (with_reducible refine Below.drew ?_) | (with_reducible refine below_drewN ?_ _) | (with_reducible refine Below.setCell ?_ ?_ _) | (first | omega | (simp only [World.size_alloc, size_plus, World.size_drew, World.size_setCell] <;> omega) | (simp <;> omega)) | omega | (simp; omega))))); rintro e w' ⟨rfl, hb⟩; (first | (obtain ⟨X, rfl⟩ := plus_again hb) | (obtain ⟨X, rfl⟩ := plus_of_below hb)); clear hb)
        | (go_at_call 101; refine (HE.out _ ?_).mono ?_; (focus (repeat' (first | (with_reducible exact Below.refl _ _) | (with_reducible assumption) | (with_reducible refine below_plus ?_ ?_ _) | (with_reducible refine Below.alloc ?_ ?_ _) | (with_reducible refine Below.drew ?_) | (with_reducible refine below_drewN ?_ _) | (with_reducible refine Below.setCell ?_ ?_ _) | (first | omega | (simp only [World.size_alloc, size_plus, World.size_drew, World.size_setCell] <;> omega) | (simp <;> omega)) | omega | (simp; omega)))); rintro e W ⟨v, rfl, ho, hb⟩; have HO := Lib.hid ho; have HB := Lib.hid hb; clear ho hb))
      go_ret
      exact ⟨_, rfl, HO.out.mono (by (first | omega | (simp only [World.size_alloc, size_plus, World.size_drew, World.size_setCell] <;> omega) | (simp <;> omega))), below_trans (by (repeat' (first | (with_reducible exact Below.refl _ _) | (with_reducible assumption) | (with_reducible refine below_plus ?_ ?_ _) | (with_reducible refine Below.alloc ?_ ?_ _) | (with_reducible refine Below.drew ?_) | (with_reducible refine below_drewN ?_ _) | (with_reducible refine Below.setCell ?_ ?_ _) | (first | omega | (simp only [World.size_alloc, size_plus, World.size_drew, World.size_setCell] <;> omega) | (simp <;> omega)) | omega | (simp; omega)))) (HB.out.mono (by (first | omega | (simp only [World.size_alloc, size_plus, World.size_drew, World.size_setCell] <;> omega) | (simp <;> omega))))⟩
  · have he : entT ht x = [] := by unfold entT; rw [if_pos (.inl hc)]
    rw [he]
    have hcb : (checkP ht x != 0) = true := by simp [hc]
    clear h hk hc he
    go_enter Try.func78, Try.ntmps78
    go_wp2_with (go_at_call 20; refine (r_Check _ ht x _ ?_).mono ?_; exact HR.out.keep (below_keeps (by (repeat' (first | (with_reducible exact Below.refl _ _) | (with_reducible assumption) | (with_reducible refine below_plus ?_ ?_ _) | (with_reducible refine Below.alloc ?_ ?_ _) | (with_reducible refine Below.drew ?_) | (with_reducible refine below_drewN ?_ _) | (with_reducible refine Below.setCell ?_ ?_ _) | (first | omega | (simp only [World.size_alloc, size_plus, World.size_drew, World.size_setCell] <;> omega) | (simp <;> omega)) | omega | (simp; omega))))); rintro e w' ⟨rfl, hb⟩; (first | (obtain ⟨X, rfl⟩ := plus_again hb) | (obtain ⟨X, rfl⟩ := plus_of_below hb)); clear hb)
    go_ret
    exact ⟨_, rfl, OwnE.nil _ _, by (repeat' (first | (with_reducible exact Below.refl _ _) | (with_reducible assumption) | (with_reducible refine below_plus ?_ ?_ _) | (with_reducible refine Below.alloc ?_ ?_ _) | (with_reducible refine Below.drew ?_) | (with_reducible refine below_drewN ?_ _) | (with_reducible refine Below.setCell ?_ ?_ _) | (first | omega | (simp only [World.size_alloc, size_plus, World.size_drew, World.size_setCell] <;> omega) | (simp <;> omega)) | omega | (simp; omega)))⟩

/-- The entry has the tag, or none is asked for. -/
def hasB (tag : Int) (t : Int) : Bool := tag == -1 || bits .and .i64 (t / 2 ^ tag.toNat) 1 == 1
set_option maxRecDepth 100000 in
set_option maxHeartbeats 1000000 in
theorem r_has (e : E3) (tag : Int) (w : World) (t0 : -1 ≤ tag) (t1 : tag ≤ 1) :
    Calls Try.prog 88 #[.agg #[.int .i64 e.1, .int .i64 e.2.1, .int .i64 e.2.2], .int .i64 tag] w fun r w' => r = .returned (.bool (hasB tag e.2.2)) ∧ Below w.heap.size w w' := by
  obtain ⟨a, b, c⟩ := e
  have ht : tag = -1 ∨ tag = 0 ∨ tag = 1 := by omega
  clear t0 t1
  rcases ht with rfl | rfl | rfl
  all_goals
    go_enter Try.func88, Try.ntmps88
    go_wp2_with fail
    go_ret
    exact ⟨by simp [hasB], by (repeat' (first | (with_reducible exact Below.refl _ _) | (with_reducible assumption) | (with_reducible refine below_plus ?_ ?_ _) | (with_reducible refine Below.alloc ?_ ?_ _) | (with_reducible refine Below.drew ?_) | (with_reducible refine below_drewN ?_ _) | (with_reducible refine Below.setCell ?_ ?_ _) | (first | omega | (simp only [World.size_alloc, size_plus, World.size_drew, World.size_setCell] <;> omega) | (simp <;> omega)) | omega | (simp; omega)))⟩
end Go.Proofs.Ytcicfijpfhbcaaa
namespace Go.Proofs.Ytcicfijpfhbcaaa
set_option linter.unusedSimpArgs false
set_option linter.unusedVariables false
set_option linter.unusedSectionVars false
open Go.RowKit

/-- The first entry from k on that has the tag. -/
def fromE (l : List E3) (tag : Int) (k : Nat) : Option E3 := (l.drop k).find? fun e => hasB tag e.2.2
def idxE : Option E3 → Int
  | some e => e.1
  | none => -1
theorem fromE_hit {l : List E3} {tag : Int} {k : Nat} {e : E3} (h : l[k]? = some e) (hb : hasB tag e.2.2 = true) : fromE l tag k = some e := by
  obtain ⟨hlt, rfl⟩ := List.getElem?_eq_some_iff.1 h
  rw [fromE, List.drop_eq_getElem_cons hlt, List.find?_cons_of_pos (p := fun e : E3 => hasB tag e.2.2) hb]
theorem fromE_miss {l : List E3} {tag : Int} {k : Nat} {e : E3} (h : l[k]? = some e) (hb : hasB tag e.2.2 = false) : fromE l tag k = fromE l tag (k + 1) := by
  obtain ⟨hlt, rfl⟩ := List.getElem?_eq_some_iff.1 h
  rw [fromE, List.drop_eq_getElem_cons hlt, List.find?_cons_of_neg (p := fun e : E3 => hasB tag e.2.2) (by rw [hb]; decide)]
  rfl
theorem fromE_end (l : List E3) (tag : Int) : fromE l tag l.length = none := by simp [fromE]
def refNext (ht : Int) (x : RN) (frm tag : Int) : Int := if frm < 0 ∨ tag < -1 ∨ 1 < tag then -1 else idxE (fromE (entT ht x) tag (atP (entT ht x) frm))

set_option maxRecDepth 100000 in
set_option maxHeartbeats 1000000 in
theorem r_Next (cs : Array Value) (ht : Int) (x : RN) (frm tag : Int) (w : World) (h : RdVals w cs 12 (encR ht x)) :
    Calls Try.prog 36 #[.agg cs, .int .i64 frm, .int .i64 tag] w fun e w' => e = .returned (.int .i64 (refNext ht x frm tag)) ∧ Below w.heap.size w w' := by
  obtain ⟨A, cap, rfl, hk⟩ := rdR_open h
  have HR := Lib.hid h
  clear h hk
  by_cases hno : frm < 0 ∨ tag < -1 ∨ 1 < tag
  · have hp : Hid (refNext ht x frm tag = -1) := if_pos hno
    have hcase : frm < 0 ∨ (0 ≤ frm ∧ tag < -1) ∨ (0 ≤ frm ∧ -1 ≤ tag ∧ 1 < tag) := by omega
    clear hno
    rcases hcase with h1 | ⟨h1, h2⟩ | ⟨h1, h2, h3⟩
    all_goals
      go_enter Try.func36, Try.ntmps36
      go_wp2_with fail
      go_ret
      exact ⟨by rw [hp.out]; rfl, by (repeat' (first | (with_reducible exact Below.refl _ _) | (with_reducible assumption) | (with_reducible refine below_plus ?_ ?_ _) | (with_reducible refine Below.alloc ?_ ?_ _) | (with_reducible refine Below.drew ?_) | (with_reducible refine below_drewN ?_ _) | (with_reducible refine Below.setCell ?_ ?_ _) | (first | omega | (simp only [World.size_alloc, size_plus, World.size_drew, World.size_setCell] <;> omega) | (simp <;> omega)) | omega | (simp; omega)))⟩
  · have hp : Hid (refNext ht x frm tag = idxE (fromE (entT ht x) tag (atP (entT ht x) frm))) := if_neg hno
    have h1 : 0 ≤ frm := by omega
    have h2 : -1 ≤ tag := by omega
    have h3 : tag ≤ 1 := by omega
    have hlen := entT_len ht x
    have HE : Hid (∀ cs W, RdVals W cs 12 (encR ht x) → Calls Try.prog 78 #[.agg cs] W (EntPost (entT ht x) W)) := fun cs W hr => r_Entries cs ht x W hr
    clear hno
    generalize entT ht x = l at *
    have hat := atP_le l frm
    have hmax : (l.length : Int) ≤ 1073741824 := by omega
    go_enter Try.func36, Try.ntmps36
    go_wp2_with (first
      | (go_at_call 78; refine (HE.out _ _ ?_).mono ?_; exact HR.out.keep (below_keeps (by (repeat' (first | (with_reducible exact Below.refl _ _) | (with_reducible assumption) | (with_reducible refine below_plus ?_ ?_ _) | (with_reducible refine Below.alloc ?_ ?_ _) | (with_reducible refine Below.drew ?_) | (with_reducible refine below_drewN ?_ _) | (with_reducible refine Below.setCell ?_ ?_ _) | (first | omega | (simp only [World.size_alloc, size_plus, World.size_drew, World.size_setCell] <;> omega) | (simp <;> omega)) | omega | (simp; omega))))); rintro e W ⟨v, rfl, ho, hb⟩; (obtain ⟨A1, cap1, rfl, hc1, hc2⟩ := ho.slice); have HO := Lib.hid ho; have HB := Lib.hid (below_trans (below_alloc w _) (hb.mono (by (first | omega | (simp only [World.size_alloc, size_plus, World.size_drew, World.size_setCell] <;> omega) | (simp <;> omega))))); clear ho hb)
      | (go_at_call 79; refine (r_at _ l frm _ _ HO.out).mono ?_; rintro e W' ⟨rfl, rfl⟩))
    go_loopw [8] (fun k wr => ∃ n : Nat, n ≤ l.length ∧ k = .int .i64 n ∧ fromE l tag n = fromE l tag (atP l frm) ∧ Below W.heap.size W wr) (fun k _ => l.length - (intOf k).toNat)
    case atStart => exact ⟨_, hat, rfl, rfl, Below.refl _ _⟩
    case round =>
      obtain ⟨n, hn, rfl, hf, hbl⟩ := hrel
      rcases Nat.lt_or_ge n l.length with hlt | hge
      · have hg : l[n]? = some l[n] := List.getElem?_eq_getElem hlt
        have hown := HO.out.below hbl
        obtain ⟨g, cap', hs, -, hgw, c0, c1, c2⟩ := hown.at hg
        injection hs with e1 e2 e3
        subst e1 e3
        have HBL := Lib.hid hbl
        clear e2 hown hbl
        generalize l[n] = e at *
        cases hb : hasB tag e.2.2
        · have hf' := Lib.hid ((fromE_miss hg hb).symm.trans hf)
          clear hg hf
          go_wp2_with (go_at_call 88; refine (r_has e tag _ h2 h3).mono ?_; rintro e w' ⟨rfl, hb⟩; (first | (obtain ⟨X, rfl⟩ := plus_again hb) | (obtain ⟨X, rfl⟩ := plus_of_below hb)); clear hb; rw [hb])
          exact ⟨⟨n + 1, by omega, by go_num, hf'.out, below_plus HBL.out HBL.out.size _⟩, by simp [intOf]; omega⟩
        · have hf' : Hid (idxE (fromE l tag (atP l frm)) = e.1) := by rw [← hf, fromE_hit hg hb]; rfl
          clear hg hf
          go_wp2_with (go_at_call 88; refine (r_has e tag _ h2 h3).mono ?_; rintro e w' ⟨rfl, hb⟩; (first | (obtain ⟨X, rfl⟩ := plus_again hb) | (obtain ⟨X, rfl⟩ := plus_of_below hb)); clear hb; rw [hb])
          go_ret
          exact ⟨by rw [hp.out, hf'.out]; rfl, below_plus (HB.out.trans (HBL.out.mono HB.out.size)) (Nat.le_trans HB.out.size HBL.out.size) _⟩
      · obtain rfl : n = l.length := by omega
        have hf' : Hid (idxE (fromE l tag (atP l frm)) = -1) := by rw [← hf, fromE_end]; rfl
        have HBL := Lib.hid hbl
        clear hf hbl
        go_wp2_with fail
        go_ret
        exact ⟨by rw [hp.out, hf'.out]; rfl, HB.out.trans (HBL.out.mono HB.out.size)⟩

def cntE (l : List E3) (tag : Int) (k : Nat) : Nat := ((l.take k).filter fun e => hasB tag e.2.2).length
theorem cntE_hit {l : List E3} {tag : Int} {k : Nat} {e : E3} (h : l[k]? = some e) : cntE l tag (k + 1) = cntE l tag k + if hasB tag e.2.2 then 1 else 0 := by
  unfold cntE
  rw [List.take_add_one, h, List.filter_append, List.length_append]
  congr 1
  show (List.filter _ [e]).length = _
  cases hb : hasB tag e.2.2 <;> simp [hb]
theorem cntE_le (l : List E3) (tag : Int) (k : Nat) : cntE l tag k ≤ k := Nat.le_trans (List.length_filter_le _ _) (by rw [List.length_take]; omega)
def refCount (ht : Int) (x : RN) (tag : Int) : Int := if tag < -1 ∨ 1 < tag then 0 else (cntE (entT ht x) tag (entT ht x).length : Int)

set_option maxRecDepth 100000 in
set_option maxHeartbeats 1000000 in
theorem r_Count (cs : Array Value) (ht : Int) (x : RN) (tag : Int) (w : World) (h : RdVals w cs 12 (encR ht x)) :
    Calls Try.prog 37 #[.agg cs, .int .i64 tag] w fun e w' => e = .returned (.int .i64 (refCount ht x tag)) ∧ Below w.heap.size w w' := by
  obtain ⟨A, cap, rfl, hk⟩ := rdR_open h
  have HR := Lib.hid h
  clear h hk
  by_cases hno : tag < -1 ∨ 1 < tag
  · have hp : Hid (refCount ht x tag = 0) := if_pos hno
    have hcase : tag < -1 ∨ (-1 ≤ tag ∧ 1 < tag) := by omega
    clear hno
    rcases hcase with h1 | ⟨h1, h2⟩
    all_goals
      go_enter Try.func37, Try.ntmps37
      go_wp2_with fail
      go_ret
      exact ⟨by rw [hp.out]; rfl, by (repeat' (first | (with_reducible exact Below.refl _ _) | (with_reducible assumption) | (with_reducible refine below_plus ?_ ?_ _) | (with_reducible refine Below.alloc ?_ ?_ _) | (with_reducible refine Below.drew ?_) | (with_reducible refine below_drewN ?_ _) | (with_reducible refine Below.setCell ?_ ?_ _) | (first | omega | (simp only [World.size_alloc, size_plus, World.size_drew, World.size_setCell] <;> omega) | (simp <;> omega)) | omega | (simp; omega)))⟩
  · have hp : Hid (refCount ht x tag = (cntE (entT ht x) tag (entT ht x).length : Int)) := if_neg hno
    have h2 : -1 ≤ tag := by omega
    have h3 : tag ≤ 1 := by omega
    have hlen := entT_len ht x
    have HE : Hid (∀ cs W, RdVals W cs 12 (encR ht x) → Calls Try.prog 78 #[.agg cs] W (EntPost (entT ht x) W)) := fun cs W hr => r_Entries cs ht x W hr
    clear hno
    generalize entT ht x = l at *
    have hmax : (l.length : Int) ≤ 1073741824 := by omega
    go_enter Try.func37, Try.ntmps37
    go_wp2_with (go_at_call 78; refine (HE.out _ _ ?_).mono ?_; exact HR.out.keep (below_keeps (by (repeat' (first | (with_reducible exact Below.refl _ _) | (with_reducible assumption) | (with_reducible refine below_plus ?_ ?_ _) | (with_reducible refine Below.alloc ?_ ?_ _) | (with_reducible refine Below.drew ?_) | (with_reducible refine below_drewN ?_ _) | (with_reducible refine Below.setCell ?_ ?_ _) | (first | omega | (simp only [World.size_alloc, size_plus, World.size_drew, World.size_setCell] <;> omega) | (simp <;> omega)) | omega | (simp; omega))))); rintro e W ⟨v, rfl, ho, hb⟩; (obtain ⟨A1, cap1, rfl, hc1, hc2⟩ := ho.slice); have HO := Lib.hid ho; have HB := Lib.hid (below_trans (below_alloc w _) (hb.mono (by (first | omega | (simp only [World.size_alloc, size_plus, World.size_drew, World.size_setCell] <;> omega) | (simp <;> omega))))); clear ho hb)
    go_loopw [5, 7] (fun c k wr => ∃ n : Nat, n ≤ l.length ∧ k = .int .i64 n ∧ c = .int .i64 (cntE l tag n) ∧ Below W.heap.size W wr) (fun _ k _ => l.length - (intOf k).toNat)
    case atStart => exact ⟨0, by omega, rfl, rfl, Below.refl _ _⟩
    case round =>
      obtain ⟨n, hn, rfl, rfl, hbl⟩ := hrel
      rcases Nat.lt_or_ge n l.length with hlt | hge
      · have hg : l[n]? = some l[n] := List.getElem?_eq_getElem hlt
        have hown := HO.out.below hbl
        obtain ⟨g, cap', hs, -, hgw, c0, c1, c2⟩ := hown.at hg
        injection hs with e1 e2 e3
        subst e1 e3
        have HBL := Lib.hid hbl
        have hcl := cntE_le l tag n
        have hst := cntE_hit (tag := tag) hg
        clear e2 hown hbl hg
        generalize l[n] = e at *
        cases hb : hasB tag e.2.2
        · have hst' : Hid (cntE l tag (n + 1) = cntE l tag n) := by rw [hst, hb]; rfl
          clear hst
          generalize cntE l tag n = c at *
          go_wp2_with (go_at_call 88; refine (r_has e tag _ h2 h3).mono ?_; rintro e w' ⟨rfl, hb⟩; (first | (obtain ⟨X, rfl⟩ := plus_again hb) | (obtain ⟨X, rfl⟩ := plus_of_below hb)); clear hb; rw [hb])
          exact ⟨⟨n + 1, by omega, by go_num, by rw [hst'.out], below_plus HBL.out HBL.out.size _⟩, by simp [intOf]; omega⟩
        · have hst' : Hid (cntE l tag (n + 1) = cntE l tag n + 1) := by rw [hst, hb]; rfl
          clear hst
          generalize cntE l tag n = c at *
          go_wp2_with (go_at_call 88; refine (r_has e tag _ h2 h3).mono ?_; rintro e w' ⟨rfl, hb⟩; (first | (obtain ⟨X, rfl⟩ := plus_again hb) | (obtain ⟨X, rfl⟩ := plus_of_below hb)); clear hb; rw [hb])
          exact ⟨⟨n + 1, by omega, by go_num, by rw [hst'.out]; push_cast; rfl, below_plus HBL.out HBL.out.size _⟩, by simp [intOf]; omega⟩
      · obtain rfl : n = l.length := by omega
        have HBL := Lib.hid hbl
        clear hbl
        go_wp2_with fail
        go_ret
        exact ⟨by rw [hp.out]; rfl, HB.out.trans (HBL.out.mono HB.out.size)⟩
end Go.Proofs.Ytcicfijpfhbcaaa
namespace Go.Proofs.Ytcicfijpfhbcaaa
set_option linter.unusedSimpArgs false
set_option linter.unusedVariables false
set_option linter.unusedSectionVars false
open Go.RowKit

theorem infoI : (Try.prog.info? 3).map (fun i => (i.size, i.bytes, i.zero.map fun z => z.cells.size)) = some (1, 8, some 1) := by kernel_rfl
theorem info_partsI : ∃ i z, Try.prog.info? 3 = some i ∧ i.zero = some z ∧ i.size = 1 ∧ i.bytes = 8 ∧ z.cells.size = 1 := by
  have h := infoI
  cases hi : Try.prog.info? 3 with
  | none => rw [hi] at h; simp at h
  | some i =>
    rw [hi] at h
    simp only [Option.map_some, Option.some.injEq, Prod.mk.injEq] at h
    obtain ⟨h1, h2, h3⟩ := h
    cases hz : i.zero with
    | none => rw [hz] at h3; simp at h3
    | some z => rw [hz] at h3; exact ⟨i, z, rfl, hz, h1, h2, by simpa using h3⟩

def flatI (l : List Int) : List Value := l.map fun i => .int .i64 i
/-- A list of numbers in a block of its own. -/
def OwnI (w : World) (base : Nat) (l : List Int) (v : Value) : Prop := w.ownsRow base 3 1 v l.length (flatI l)
theorem OwnI.nil (w : World) (base : Nat) : OwnI w base [] (.slice none 0 0) := ⟨rfl, .inl ⟨rfl, rfl⟩⟩
theorem OwnI.slice {w : World} {base : Nat} {l : List Int} {v : Value} (h : OwnI w base l v) : ∃ A cap, v = .slice A l.length cap ∧ l.length ≤ cap ∧ cap ≤ maxLen := by
  rcases h.2 with ⟨h1, h2⟩ | ⟨g, cap, cur, h1, -, -, h4, h5, -⟩
  · exact ⟨none, 0, by rw [h1, h2], by omega, by decide⟩
  · exact ⟨_, _, h1, h4, h5⟩
theorem OwnI.keep {w w' : World} {base : Nat} {l : List Int} {v : Value} (h : OwnI w base l v) (hk : ∀ q, v.ownBlock = some q → q < w.heap.size → w'.heap[q]? = w.heap[q]?) : OwnI w' base l v := by
  refine ⟨h.1, ?_⟩
  rcases h.2 with h1 | ⟨g, cap, cur, h1, h2, h3, h4⟩
  · exact .inl h1
  · exact .inr ⟨g, cap, cur, h1, h2, by rw [hk g (by rw [h1]; rfl) (lt_of_heap h3)]; exact h3, h4⟩
theorem OwnI.below {w w' : World} {base : Nat} {l : List Int} {v : Value} (h : OwnI w base l v) (hb : Below w.heap.size w w') : OwnI w' base l v := h.keep fun q _ hl => hb.block q hl
theorem OwnI.mono {w : World} {base base' : Nat} {l : List Int} {v : Value} (h : OwnI w base l v) (hb : base' ≤ base) : OwnI w base' l v := by
  refine ⟨h.1, ?_⟩
  rcases h.2 with h1 | ⟨g, cap, cur, h1, h2, h3, h4⟩
  · exact .inl h1
  · exact .inr ⟨g, cap, cur, h1, by omega, h3, h4⟩
theorem OwnI.base_ {w : World} {base : Nat} {l : List Int} {v : Value} (h : OwnI w base l v) : ∀ g, v.ownBlock = some g → base ≤ g := fun g hg => by
  rcases h.2 with ⟨h1, -⟩ | ⟨q, cap, cur, h1, h2, -⟩
  · rw [h1] at hg; cases hg
  · rw [h1] at hg
    have : q = g := by simpa [Value.ownBlock] using hg
    omega
theorem OwnI.lt {w : World} {base : Nat} {l : List Int} {v : Value} (h : OwnI w base l v) : ∀ q, v.ownBlock = some q → q < w.heap.size := fun q hq => by
  rcases h.2 with ⟨h1, -⟩ | ⟨g, cap, cur, h1, h2, h3, -⟩
  · rw [h1] at hq; cases hq
  · rw [h1] at hq
    have : g = q := by simpa [Value.ownBlock] using hq
    subst this
    exact lt_of_heap h3
theorem OwnI.at {w : World} {base : Nat} {l : List Int} {v : Value} (h : OwnI w base l v) {k : Nat} {i : Int} (hk : l[k]? = some i) :
    ∃ g cap, v = .slice (some ⟨g, 0, none⟩) l.length cap ∧ base ≤ g ∧ g < w.heap.size ∧ w.cell? ⟨g, k, none⟩ = some (.int .i64 i) := by
  have hlt : k < l.length := (List.getElem?_eq_some_iff.1 hk).1
  rcases h.2 with ⟨h1, h2⟩ | ⟨g, cap, cur, h1, h2, h3, h4, h5, h6, h7⟩
  · omega
  · refine ⟨g, cap, h1, h2, lt_of_heap h3, ?_⟩
    rw [cell_of_row _ _ _ _ _ _ h3]
    have : (flatI l)[k]? = some (.int .i64 i) := by unfold flatI; rw [List.getElem?_map, hk]; rfl
    rw [← this, ← h7, List.getElem?_take, if_pos (by omega), Array.getElem?_toList]

/-- What an append to an owned list of numbers leaves. -/
structure AppI (w w' : World) (base : Nat) (l : List Int) (v v' : Value) : Prop where
  own : OwnI w' base l v'
  below : Below base w w'
  far : ∀ b, b < w.heap.size → v.ownBlock ≠ some b → w'.heap[b]? = w.heap[b]?
  lies : ∀ q, v'.ownBlock = some q → v.ownBlock = some q ∨ w.heap.size ≤ q
  grown : w.grownBy w' v.ownBlock
theorem wpList_appendI {ops : Array Oper} {rest : List Oper} {o : Oper} {a : Act} {w : World} {Q : Exit → Act → World → Prop} (hgd : o.guard = none) (s x : Operand) (ho : o.op = .call { callee := .builtin .append, args := #[s, x], argTypes := #[43, 43] })
    (base : Nat) (l : List Int) (v : Value) (hs : a.eval s = v) (hown : OwnI w base l v) (i : Int) (t : TypeId) (hx : a.eval x = .slice (some ⟨w.heap.size, 0, none⟩) 1 1)
    (hb : base ≤ w.heap.size) (hl : l.length ≤ 1073741824)
    (h : ∀ v' w', AppI (w.alloc (.cells #[.int .i64 i] t)) w' base (l ++ [i]) v v' → wpList Try.prog ops Q rest (a.put o.dst v') w') : wpList Try.prog ops Q (o :: rest) a (w.alloc (.cells #[.int .i64 i] t)) := by
  obtain ⟨i0, z0, hi0, hz0, hz1, hz2, hz3⟩ := info_partsI
  have hown' := hown.below (Below.alloc (Below.refl w.heap.size w) (Nat.le_refl _) (.cells #[.int .i64 i] t))
  refine wpList_append_lies _ hgd s x _ ho base 3 i0 z0 1 8 Try.underlying43 hi0 hz0 hz1 hz2 hz3 (by omega) v l.length (flatI l) hs hown'
    ⟨w.heap.size, 0, none⟩ 1 1 [.int .i64 i] hx rfl (World.news_of_block (heap_alloc_new _ _)) (by simp [Value.oneCell'])
    (by omega) (by unfold maxLen; omega) (by omega) (by simp; omega) _ rfl fun g cap w' h1 h2 h3 h4 => h _ _ ⟨?_, below_grown h2 (by simp; omega) hown'.base_, fun b hb hn => h2.block b hb fun e => hn e.symm, fun q hq => ?_, h2⟩
  · unfold OwnI flatI
    rw [List.length_append, List.map_append]
    exact h1
  · have : g = q := by simpa [Value.ownBlock] using hq
    subst this
    exact h3.imp id fun e => by omega

def idxL (l : List E3) : List Int := l.map fun e => e.1
set_option maxRecDepth 100000 in
set_option maxHeartbeats 1000000 in
theorem r_List (cs : Array Value) (ht : Int) (x : RN) (w : World) (h : RdVals w cs 12 (encR ht x)) :
    Calls Try.prog 39 #[.agg cs] w fun e w' => ∃ v, e = .returned v ∧ OwnI w' w.heap.size (idxL (entT ht x)) v ∧ Below w.heap.size w w' := by
  obtain ⟨A, cap, rfl, hk⟩ := rdR_open h
  have HR := Lib.hid h
  have hlen := entT_len ht x
  have HE : Hid (∀ cs W, RdVals W cs 12 (encR ht x) → Calls Try.prog 78 #[.agg cs] W (EntPost (entT ht x) W)) := fun cs W hr => r_Entries cs ht x W hr
  clear h hk
  generalize entT ht x = l at *
  have hmax : (l.length : Int) ≤ 1073741824 := by omega
  go_enter Try.func39, Try.ntmps39
  go_wp2_with (go_at_call 78; refine (HE.out _ _ ?_).mono ?_; exact HR.out.keep (below_keeps (by (repeat' (first | (with_reducible exact Below.refl _ _) | (with_reducible assumption) | (with_reducible refine below_plus ?_ ?_ _) | (with_reducible refine Below.alloc ?_ ?_ _) | (with_reducible refine Below.drew ?_) | (with_reducible refine below_drewN ?_ _) | (with_reducible refine Below.setCell ?_ ?_ _) | (first | omega | (simp only [World.size_alloc, size_plus, World.size_drew, World.size_setCell] <;> omega) | (simp <;> omega)) | omega | (simp; omega))))); rintro e W ⟨v, rfl, ho, hb⟩; (obtain ⟨A1, cap1, rfl, hc1, hc2⟩ := ho.slice); have HO := Lib.hid ho; have HB := Lib.hid (below_trans (below_alloc w _) (hb.mono (by (first | omega | (simp only [World.size_alloc, size_plus, World.size_drew, World.size_setCell] <;> omega) | (simp <;> omega))))); clear ho hb)
  go_loopw [3, 5] (fun v k wr => ∃ n : Nat, n ≤ l.length ∧ k = .int .i64 n ∧ OwnI wr W.heap.size (idxL (l.take n)) v ∧ Below W.heap.size W wr) (fun _ k _ => l.length - (intOf k).toNat)
  case atStart => exact ⟨0, by omega, rfl, OwnI.nil _ _, Below.refl _ _⟩
  case round =>
    obtain ⟨n, hn, rfl, hI, hbl⟩ := hrel
    rcases Nat.lt_or_ge n l.length with hlt | hge
    · have hg : l[n]? = some l[n] := List.getElem?_eq_getElem hlt
      have hown := HO.out.below hbl
      obtain ⟨g, cap', hs, -, hgw, c0, -, -⟩ := hown.at hg
      injection hs with e1 e2 e3
      subst e1 e3
      have HBL := Lib.hid hbl
      have HI := Lib.hid hI
      have hst : Hid (idxL (l.take (n + 1)) = idxL (l.take n) ++ [l[n].1]) := by unfold Hid idxL; rw [List.take_add_one, hg, List.map_append]; rfl
      have hll : (idxL (l.take n)).length ≤ 1073741824 := by unfold idxL; rw [List.length_map, List.length_take]; omega
      have hsz := hbl.size
      clear e2 hown hbl hg hI
      generalize l[n] = e at *
      go_wp2_with ((with_reducible refine wpList_appendI ?_ (.tmp 14) (.tmp 20) ?_ W.heap.size _ _ ?_ HI.out e.1 _ ?_ hsz hll ?_); rfl; (with_reducible rfl); rfl; rfl; (intro v' w' hap); have HA := Lib.hid hap; clear hap)
      exact ⟨⟨n + 1, by omega, by go_num, by rw [hst.out]; exact HA.out.own, (HBL.out.alloc hsz _).trans HA.out.below⟩, by simp [intOf]; omega⟩
    · obtain rfl : n = l.length := by omega
      have HBL := Lib.hid hbl
      have HI := Lib.hid hI
      clear hbl hI
      go_wp2_with fail
      go_ret
      have := HI.out.mono HB.out.size
      rw [List.take_length] at this
      exact ⟨_, rfl, this, HB.out.trans (HBL.out.mono HB.out.size)⟩
end Go.Proofs.Ytcicfijpfhbcaaa
namespace Go.Proofs.Ytcicfijpfhbcaaa
set_option linter.unusedSimpArgs false
set_option linter.unusedVariables false
set_option linter.unusedSectionVars false
open Go.RowKit

/-- The list that the closure of List has made so far. -/
def ListI (g : Nat) (l : List Int) (w : World) : Prop := ∃ v, w.heap[g]? = some (.cells #[v] 43 (0, 0)) ∧ OwnI w (g + 1) l v
def listF (g : Nat) (w : World) (b : Nat) : Prop := b = g ∨ ∃ v, w.heap[g]? = some (.cells #[v] 43 (0, 0)) ∧ v.ownBlock = some b
theorem cells_inj {w : World} {g : Nat} {u v : Value} {t : TypeId} (h : w.heap[g]? = some (.cells #[u] t (0, 0))) (k : w.heap[g]? = some (.cells #[v] t (0, 0))) : u = v := by
  rw [h] at k
  injection k with k
  injection k with k
  simpa using k

set_option maxRecDepth 100000 in
set_option maxHeartbeats 1000000 in
theorem p_List1 (B g : Nat) (hB : B ≤ g) : Yld1 89 #[.pointer (some ⟨g, 0, none⟩)] B (fun _ => true) (ListI g) (listF g) where
  enter args w := rfl
  keep l w w' h hb := by
    obtain ⟨v, h1, h2⟩ := h
    have e := hb.block _ (lt_of_heap h1)
    exact ⟨⟨v, e.trans h1, h2.below hb⟩, fun b hf => hf.imp id fun ⟨u, k1, k2⟩ => ⟨u, e.symm.trans k1, k2⟩⟩
  fpin l w b h hb := by
    obtain ⟨v, h1, h2⟩ := h
    rcases hb with rfl | ⟨u, k1, k2⟩
    · exact ⟨hB, lt_of_heap h1⟩
    · have := cells_inj h1 k1
      subst this
      have := h2.base_ b k2
      exact ⟨by omega, h2.lt b k2⟩
  call l w i i0 i1 h hl := by
    obtain ⟨v, h1, h2⟩ := h
    have c3 := cell_one h1
    have hg := lt_of_heap h1
    have hll : l.length ≤ 1073741824 := by omega
    have H1 := Lib.hid h1
    have H2 := Lib.hid h2
    have hgb : g + 1 ≤ w.heap.size := by omega
    have HFR : Hid (∀ w' v', AppI (w.alloc (.cells #[.int .i64 i] 3)) w' (g + 1) (l ++ [i]) v v' → w'.frozen? ⟨g, 0, none⟩ = false ∧ w'.cell? ⟨g, 0, none⟩ = some v) := fun w' v' hap =>
      ⟨frozen_of_row w' g 0 _ _ ((hap.below.block g (by omega)).trans ((Below.heap_alloc _ _ _ hg).trans h1)), cell_one ((hap.below.block g (by omega)).trans ((Below.heap_alloc _ _ _ hg).trans h1))⟩
    clear h1 h2
    go_enter Try.func89, Try.ntmps89
    go_wp2_with ((with_reducible refine wpList_appendI ?_ (.tmp 4) (.tmp 6) ?_ (g + 1) _ _ ?_ H2.out i _ ?_ hgb hll ?_); rfl; (with_reducible rfl); rfl; rfl; (intro v' w' hap); (obtain ⟨A9, cap9, hv9, -⟩ := hap.own.slice); (rw [show (l ++ [i]).length = l.length + 1 by simp] at hv9); subst hv9; have HA := Lib.hid hap; (obtain ⟨hcf, hcc⟩ := HFR.out _ _ hap); have hcg : g < w'.heap.size := (by have := hap.below.size; simp at this; omega); clear hap)
    go_ret
    have hA := HA.out
    have hgw : w'.heap[g]? = some (.cells #[v] 43 (0, 0)) := (hA.below.block g (by omega)).trans ((Below.heap_alloc _ _ _ hg).trans H1.out)
    have hown : OwnI (w'.setCell ⟨g, 0, none⟩ (.slice A9 (l.length + 1) cap9)) (g + 1) (l ++ [i]) (.slice A9 (l.length + 1) cap9) := hA.own.keep fun q hq _ => heap_setCell_other w' _ q _ (by have := hA.own.base_ q hq; show q ≠ g; omega)
    refine ⟨rfl, ⟨_, heap_set_one hgw _, hown⟩, ?_, fun b hb => ?_⟩
    · refine ⟨hA.below.os, hA.below.tape, hA.below.output, ?_, fun k hk hn => ?_⟩
      · have := hA.below.size; simp at this ⊢; omega
      · rw [heap_setCell_other w' _ k _ (fun e => hn (.inl e)), hA.far k (by simp; omega) (fun e => hn (.inr ⟨v, H1.out, e⟩)), Below.heap_alloc _ _ _ hk]
    · rcases hb with rfl | ⟨u, k1, k2⟩
      · exact .inl (.inl rfl)
      · have := cells_inj (heap_set_one hgw _) k1
        subst this
        rcases hA.lies b k2 with h | h
        · exact .inl (.inr ⟨v, H1.out, h⟩)
        · right; simp at h; omega

set_option maxRecDepth 100000 in
set_option maxHeartbeats 1000000 in
theorem p_List (cs : Array Value) (ht : Int) (x : RN) (w : World) (h : RdVals w cs 12 (encR ht x)) :
    Calls Try.prog 38 #[.agg cs] w fun e w' => ∃ v, e = .returned v ∧ OwnI w' w.heap.size (eachL ht x (-1)) v ∧ Below w.heap.size w w' := by
  obtain ⟨A, cap, rfl, hk⟩ := rdR_open h
  have HR := Lib.hid h
  clear h hk
  go_enter Try.func38, Try.ntmps38
  go_wp2_with (go_at_call 83; refine (p_each w (p_List1 w.heap.size (w.heap.size + 1) (by omega)) _ ht x (-1) [] _ HR.out ?_ ?_ rfl).mono ?_; (focus (repeat' (first | (with_reducible exact Below.refl _ _) | (with_reducible assumption) | (with_reducible refine below_plus ?_ ?_ _) | (with_reducible refine Below.alloc ?_ ?_ _) | (with_reducible refine Below.drew ?_) | (with_reducible refine below_drewN ?_ _) | (with_reducible refine Below.setCell ?_ ?_ _) | (first | omega | (simp only [World.size_alloc, size_plus, World.size_drew, World.size_setCell] <;> omega) | (simp <;> omega)) | omega | (simp; omega)))); exact ⟨_, heap_alloc_here _ _ _ (by simp), OwnI.nil _ _⟩; rintro e W2 ⟨rfl, hI, hm, -⟩; rw [List.nil_append, upTo_self (List.all_eq_true.2 fun _ _ => rfl)] at hI; (obtain ⟨v, hv, ho⟩ := hI); have c7 := cell_one hv; have HO := Lib.hid ho; have HM := Lib.hid hm; clear ho hm)
  go_ret
  refine ⟨v, rfl, HO.out.mono (by omega), Below.trans ?_ (HM.out.below ?_ fun k e => ((p_List1 w.heap.size (w.heap.size + 1) (by omega)).fpin [] _ k ⟨_, heap_alloc_here _ _ _ (by simp), OwnI.nil _ _⟩ e).1)⟩
  · (repeat' (first | (with_reducible exact Below.refl _ _) | (with_reducible assumption) | (with_reducible refine below_plus ?_ ?_ _) | (with_reducible refine Below.alloc ?_ ?_ _) | (with_reducible refine Below.drew ?_) | (with_reducible refine below_drewN ?_ _) | (with_reducible refine Below.setCell ?_ ?_ _) | (first | omega | (simp only [World.size_alloc, size_plus, World.size_drew, World.size_setCell] <;> omega) | (simp <;> omega)) | omega | (simp; omega)))
  · simp; omega
end Go.Proofs.Ytcicfijpfhbcaaa
namespace Go.Proofs.Ytcicfijpfhbcaaa
set_option linter.unusedSimpArgs false
set_option linter.unusedVariables false
set_option linter.unusedSectionVars false

theorem ent3_ents (m : Nat) (x : RN) (first : Int) : ents m x first = (ent3 m x first).map fun e => (e.1, e.2.2) := by
  rw [ents_all, ent3_all, List.map_flatMap]
  refine flatMap_congr' fun j _ => ?_
  unfold rowE row3
  split <;> rfl
theorem has_sel {tag : Int} (t0 : -1 ≤ tag) (t1 : tag ≤ 1) : ∀ (i : Int) (e : Ent), hasB tag (tgE e) = selB tag (i, tgE e) := fun i e => by
  have hb := bits_tab e.2.1 e.2.2
  have ht : tag = -1 ∨ tag = 0 ∨ tag = 1 := by omega
  have h01 : ∀ z : Int, z = 0 ∨ z = 1 → (z == 1) = !(z == 0) := by intro z hz; rcases hz with rfl | rfl <;> rfl
  have h2 : ∀ a b : Bool, bits .and .i64 ((if a then 1 else 0) + (if b then 1 else 0) * 2) 1 = (if a then 1 else 0) ∧ bits .and .i64 (((if a then 1 else 0) + (if b then 1 else 0) * 2) / 2) 1 = (if b then 1 else 0) := by decide +kernel
  have h3 := h2 e.2.1 e.2.2
  rcases ht with rfl | rfl | rfl
  · simp [hasB, selB]
  · unfold hasB selB tgE
    simp only [Int.toNat_zero, Int.pow_zero, Int.ediv_one, h3.1]
    cases e.2.1 <;> rfl
  · unfold hasB selB tgE
    have e1 : (2 : Int) ^ (1 : Int).toNat = 2 := rfl
    simp only [e1, h3.2]
    cases e.2.2 <;> rfl
/-- The entries of a tree that have the tag. -/
theorem each_ent {ht : Int} {x : RN} {tag : Int} (t0 : -1 ≤ tag) (t1 : tag ≤ 1) : eachL ht x tag = ((entT ht x).filter fun e => hasB tag e.2.2).map fun e => e.1 := by
  unfold eachL entT
  by_cases hn : checkP ht x ≠ 0 ∨ ht = 0
  · rw [if_pos (by omega), if_pos hn]; rfl
  · rw [if_neg (by omega), if_neg hn, ent3_ents]
    unfold sel
    rw [List.filter_map, List.map_map]
    have : ((ent3 (ht.toNat - 1) x 0).filter (selB tag ∘ fun e => (e.1, e.2.2))) = (ent3 (ht.toNat - 1) x 0).filter fun e => hasB tag e.2.2 := by
      refine List.filter_congr fun e he => ?_
      rw [ent3_all] at he
      obtain ⟨j, -, hj⟩ := List.mem_flatMap.1 he
      unfold row3 at hj
      split at hj
      · cases hj
      · rw [List.mem_singleton] at hj
        subst hj
        exact (has_sel t0 t1 _ _).symm
    rw [this]
    rfl
theorem has_all (t : Int) : hasB (-1) t = true := rfl
theorem each_list (ht : Int) (x : RN) : eachL ht x (-1) = idxL (entT ht x) := by
  rw [each_ent (by omega) (by omega)]
  have : ((entT ht x).filter fun e => hasB (-1) e.2.2) = entT ht x := List.filter_eq_self.2 fun _ _ => rfl
  rw [this]; rfl
theorem ent_asc (ht : Int) (x : RN) : (entT ht x).Pairwise fun a b => a.1 < b.1 := by
  have := each_asc ht x (-1)
  rw [each_list] at this
  unfold idxL at this
  rwa [List.pairwise_map] at this

theorem from_find {tag frm : Int} : ∀ {l : List E3}, (l.Pairwise fun a b => a.1 < b.1) → (((l.filter fun e => hasB tag e.2.2).map fun e => e.1).find? fun i => decide (frm ≤ i)).getD (-1) = idxE (fromE l tag (atP l frm))
  | [], _ => rfl
  | a :: l, h => by
    have hh := List.pairwise_cons.1 h
    have ih := from_find (tag := tag) (frm := frm) hh.2
    by_cases ha : a.1 < frm
    · have e1 : atP (a :: l) frm = atP l frm + 1 := by unfold atP; rw [List.takeWhile_cons_of_pos (by simpa using ha), List.length_cons]
      have e2 : fromE (a :: l) tag (atP l frm + 1) = fromE l tag (atP l frm) := rfl
      rw [e1, e2, ← ih, List.filter_cons]
      split
      · rw [List.map_cons, List.find?_cons_of_neg (by simp; omega)]
      · rfl
    · have e1 : atP (a :: l) frm = 0 := by unfold atP; rw [List.takeWhile_cons_of_neg (by simpa using ha)]; rfl
      rw [e1]
      unfold fromE
      have e3 : (a :: l).find? (fun e => hasB tag e.2.2) = ((a :: l).filter fun e => hasB tag e.2.2).head? := by rw [List.head?_filter]
      rw [List.drop_zero, e3]
      have hall : ∀ b ∈ (a :: l).filter fun e => hasB tag e.2.2, frm ≤ b.1 := fun b hb => by
        have hb' := (List.mem_filter.1 hb).1
        rcases List.mem_cons.1 hb' with rfl | hb'
        · omega
        · have := hh.1 b hb'; omega
      generalize (a :: l).filter (fun e => hasB tag e.2.2) = m at hall
      cases m with
      | nil => rfl
      | cons b m =>
        have := hall b (List.mem_cons_self ..)
        rw [List.map_cons, List.find?_cons_of_pos (by simpa using this)]
        rfl
theorem next_ref (ht : Int) (x : RN) (frm tag : Int) : nextP ht x frm tag = refNext ht x frm tag := by
  unfold refNext
  by_cases hn : frm < 0 ∨ tag < -1 ∨ 1 < tag
  · rw [if_pos hn]
    by_cases h0 : frm < 0
    · unfold nextP; rw [if_pos h0]
    · rw [next_find ht x (by omega), each_none (.inr (by omega))]; rfl
  · rw [if_neg hn, next_find ht x (by omega), each_ent (by omega) (by omega)]
    exact from_find (ent_asc ht x)
theorem count_ref (ht : Int) (x : RN) (tag : Int) : countP ht x tag = refCount ht x tag := by
  unfold countP refCount
  by_cases hn : tag < -1 ∨ 1 < tag
  · rw [if_pos hn, each_none (.inr hn)]; rfl
  · rw [if_neg hn, each_ent (by omega) (by omega), List.length_map]
    unfold cntE
    rw [List.take_length]
end Go.Proofs.Ytcicfijpfhbcaaa
