/-
  The reference's Entries, has, Next, Count.
-/
import Derived.Test.YtcicfijpfhbcaaaRe
import Derived.Test.YtcicfijpfhbcaaaCk
namespace Go.Proofs.Ytcicfijpfhbcaaa
set_option linter.unusedSimpArgs false
set_option linter.unusedVariables false
set_option linter.unusedSectionVars false
open Go.RowKit

/-- The reference's entries of a tree. -/
def entT (ht : Int) (x : RN) : List E3 := if checkP ht x ≠ 0 ∨ ht = 0 then [] else ent3 (ht.toNat - 1) x 0
theorem entT_len (ht : Int) (x : RN) : (entT ht x).length ≤ 1073741824 := by
  unfold entT
  split
  · simp
  · rename_i h
    have hc : checkP ht x = 0 := by omega
    have hb := check_neg hc
    have h1 := ent3_len (ht.toNat - 1) x 0
    have h2 : (8 : Nat) ^ (ht.toNat - 1 + 1) ≤ 8 ^ 10 := pow8_mono (by omega)
    have h9 : (8 : Nat) ^ 10 = 1073741824 := by decide
    omega

set_option maxRecDepth 100000 in
set_option maxHeartbeats 1000000 in
theorem r_Entries (cs : Array Value) (ht : Int) (x : RN) (w : World) (h : RdVals w cs 12 (encR ht x)) :
    Calls Try.prog 78 #[.agg cs] w (EntPost (entT ht x) w) := by
  obtain ⟨A, cap, rfl, hk⟩ := rdR_open h
  have HR := Lib.hid h
  by_cases hc : checkP ht x = 0
  · by_cases hz : ht = 0
    · have he : entT ht x = [] := by unfold entT; rw [if_pos (.inr hz)]
      rw [he]
      have hcb : (checkP ht x != 0) = false := by simp [hc]
      have hzb : (ht == 0) = true := by simp [hz]
      clear h hk hc hz he
      go_enter Try.func78, Try.ntmps78
      go_wp2_with (go_at_call 20; refine (r_Check _ ht x _ ?_).mono ?_; exact HR.out.keep (below_keeps (by (repeat' (first | (with_reducible exact Below.refl _ _) | (with_reducible assumption) | (with_reducible refine below_plus ?_ ?_ _) | (with_reducible refine Below.alloc ?_ ?_ _) | (with_reducible refine Below.drew ?_) | (with_reducible refine below_drewN ?_ _) | (with_reducible refine Below.setCell ?_ ?_ _) | (first | omega | (simp only [World.size_alloc, size_plus, World.size_drew, World.size_setCell] <;> omega) | (simp <;> omega)) | omega | (simp; omega))))); rintro e w' ⟨rfl, hb⟩; (first | (obtain ⟨X, rfl⟩ := plus_again hb) | (obtain ⟨X, rfl⟩ := plus_of_below hb)); clear hb)
      go_ret
      exact ⟨_, rfl, OwnE.nil _ _, by (repeat' (first | (with_reducible exact Below.refl _ _) | (with_reducible assumption) | (with_reducible refine below_plus ?_ ?_ _) | (with_reducible refine Below.alloc ?_ ?_ _) | (with_reducible refine Below.drew ?_) | (with_reducible refine below_drewN ?_ _) | (with_reducible refine Below.setCell ?_ ?_ _) | (first | omega | (simp only [World.size_alloc, size_plus, World.size_drew, World.size_setCell] <;> omega) | (simp <;> omega)) | omega | (simp; omega)))⟩
    · have hb := check_neg hc
      obtain ⟨m, rfl⟩ : ∃ m : Nat, ht = (m : Int) + 1 := ⟨(ht - 1).toNat, by omega⟩
      have he : entT ((m : Int) + 1) x = ent3 m x 0 := by
        unfold entT
        rw [if_neg (by omega), show (((m : Int) + 1).toNat - 1) = m by omega]
      rw [he]
      have hok : okN m x := by
        have hT : okT (m + 1) x := check_iff.1 (by rw [← hc]; rfl)
        rcases hT with h | h
        · omega
        · exact h.2.2.1
      have hp8 : (0 : Int) + 8 ^ (m + 1) ≤ 1073741824 := by
        have h1 : (8 : Nat) ^ (m + 1) ≤ 8 ^ 10 := pow8_mono (by omega)
        have h9 : (8 : Nat) ^ 10 = 1073741824 := by decide
        rw [h9] at h1
        have h2 : ((8 ^ (m + 1) : Nat) : Int) ≤ 1073741824 := Int.ofNat_le.2 h1
        rw [Int.natCast_pow] at h2
        rw [Int.zero_add]; exact h2
      have HN := Lib.hid (rdN_shut hk)
      have HE : Hid (∀ W, Below w.heap.size w W → Calls Try.prog 101 #[.agg (cellsN x (.slice A x.n cap)), .int .i64 ((m : Int) + 1), .int .i64 0] W (EntPost (ent3 m x 0) W)) := fun W hW =>
        r_entries m (by omega) _ x 0 W (HN.out.keep (below_keeps hW)) hok (by omega) hp8
      have hcb : (checkP ((m : Int) + 1) x != 0) = false := by simp [hc]
      have hzb : ((m : Int) + 1 == 0) = false := by simp; omega
      clear h hk hc hz he hok hp8 hb HN
      go_enter Try.func78, Try.ntmps78
      go_wp2_with (first
        | (go_at_call 20; refine (r_Check _ ((m : Int) + 1) x _ ?_).mono ?_; exact HR.out.keep (below_keeps (by (repeat' (first | (with_reducible exact Below.refl _ _) | (with_reducible assumption) | (with_reducible refine below_plus ?_ ?_ _) | (with_reducible refine Below.alloc ?_ ?_ _) | (with_reducible refine Below.drew ?_) | (with_reducible refine below_drewN ?_ _) | (with_reducible refine Below.setCell ?_ ?_ _) | (first | omega | (simp only [World.size_alloc, size_plus, World.size_drew, World.size_setCell] <;> omega) | (simp <;> omega)) | omega | (simp; omega))))); rintro e w' ⟨rfl, hb⟩; (first | (obtain ⟨X, rfl⟩ := plus_again hb) | (obtain ⟨X, rfl⟩ := plus_of_below hb)); clear hb)
        | (go_at_call 101; refine (HE.out _ ?_).mono ?_; (focus (repeat' (first | (with_reducible exact Below.refl _ _) | (with_reducible assumption) | (with_reducible refine below_plus ?_ ?_ _) | (with_reducible refine Below.alloc ?_ ?_ _) | (with_reducible refine Below.drew ?_) | (with_reducible refine below_drewN ?_ _) | (with_reducible refine Below.setCell ?_ ?_ _) | (first | omega | (simp only [World.size_alloc, size_plus, World.size_drew, World.size_setCell] <;> omega) | (simp <;> omega)) | omega | (simp; omega)))); rintro e W ⟨v, rfl, ho, hb⟩; have HO := Lib.hid ho; have HB := Lib.hid hb; clear ho hb))
      go_ret
      exact ⟨_, rfl, HO.out.mono (by (first | omega | (simp only [World.size_alloc, size_plus, World.size_drew, World.size_setCell] <;> omega) | (simp <;> omega))), below_trans (by (repeat' (first | (with_reducible exact Below.refl _ _) | (with_reducible assumption) | (with_reducible refine below_plus ?_ ?_ _) | (with_reducible refine Below.alloc ?_ ?_ _) | (with_reducible refine Below.drew ?_) | (with_reducible refine below_drewN ?_ _) | (with_reducible refine Below.setCell ?_ ?_ _) | (first | omega | (simp only [World.size_alloc, size_plus, World.size_drew, World.size_setCell] <;> omega) | (simp <;> omega)) | omega | (simp; omega)))) (HB.out.mono (by (first | omega | (simp only [World.size_alloc, size_plus, World.size_drew, World.size_setCell] <;> omega) | (simp <;> omega))))⟩
  · have he : entT ht x = [] := by unfold entT; rw [if_pos (.inl hc)]
    rw [he]
    have hcb : (checkP ht x != 0) = true := by simp [hc]
    clear h hk hc he
    go_enter Try.func78, Try.ntmps78
    go_wp2_with (go_at_call 20; refine (r_Check _ ht x _ ?_).mono ?_; exact HR.out.keep (below_keeps (by (repeat' (first | (with_reducible exact Below.refl _ _) | (with_reducible assumption) | (with_reducible refine below_plus ?_ ?_ _) | (with_reducible refine Below.alloc ?_ ?_ _) | (with_reducible refine Below.drew ?_) | (with_reducible refine below_drewN ?_ _) | (with_reducible refine Below.setCell ?_ ?_ _) | (first | omega | (simp only [World.size_alloc, size_plus, World.size_drew, World.size_setCell] <;> omega) | (simp <;> omega)) | omega | (simp; omega))))); rintro e w' ⟨rfl, hb⟩; (first | (obtain ⟨X, rfl⟩ := plus_again hb) | (obtain ⟨X, rfl⟩ := plus_of_below hb)); clear hb)
    go_ret
    exact ⟨_, rfl, OwnE.nil _ _, by (repeat' (first | (with_reducible exact Below.refl _ _) | (with_reducible assumption) | (with_reducible refine below_plus ?_ ?_ _) | (with_reducible refine Below.alloc ?_ ?_ _) | (with_reducible refine Below.drew ?_) | (with_reducible refine below_drewN ?_ _) | (with_reducible refine Below.setCell ?_ ?_ _) | (first | omega | (simp only [World.size_alloc, size_plus, World.size_drew, World.size_setCell] <;> omega) | (simp <;> omega)) | omega | (simp; omega)))⟩

/-- The entry has the tag, or none is asked for. -/
def hasB (tag : Int) (t : Int) : Bool := tag == -1 || bits .and .i64 (t / 2 ^ tag.toNat) 1 == 1
set_option maxRecDepth 100000 in
set_option maxHeartbeats 1000000 in
theorem r_has (e : E3) (tag : Int) (w : World) (t0 : -1 ≤ tag) (t1 : tag ≤ 1) :
    Calls Try.prog 88 #[.agg #[.int .i64 e.1, .int .i64 e.2.1, .int .i64 e.2.2], .int .i64 tag] w fun r w' => r = .returned (.bool (hasB tag e.2.2)) ∧ Below w.heap.size w w' := by
  obtain ⟨a, b, c⟩ := e
  have ht : tag = -1 ∨ tag = 0 ∨ tag = 1 := by omega
  clear t0 t1
  rcases ht with rfl | rfl | rfl
  all_goals
    go_enter Try.func88, Try.ntmps88
    go_wp2_with fail
    go_ret
    exact ⟨by simp [hasB], by (repeat' (first | (with_reducible exact Below.refl _ _) | (with_reducible assumption) | (with_reducible refine below_plus ?_ ?_ _) | (with_reducible refine Below.alloc ?_ ?_ _) | (with_reducible refine Below.drew ?_) | (with_reducible refine below_drewN ?_ _) | (with_reducible refine Below.setCell ?_ ?_ _) | (first | omega | (simp only [World.size_alloc, size_plus, World.size_drew, World.size_setCell] <;> omega) | (simp <;> omega)) | omega | (simp; omega)))⟩
end Go.Proofs.Ytcicfijpfhbcaaa
