/-
  The reference's nodes and Few; radix.empty.
-/
import Derived.Test.YtcicfijpfhbcaaaPc
import Derived.Test.YtcicfijpfhbcaaaRs
import Derived.Test.YtcicfijpfhbcaaaNode2
namespace Go.Proofs.Ytcicfijpfhbcaaa
set_option linter.unusedSimpArgs false
set_option linter.unusedVariables false
set_option linter.unusedSectionVars false
open Go.RowKit

def nodesTo (sub : Nat → Int → Int) (m : Int) : Nat → Int
  | 0 => 1
  | i + 1 => if nodesTo sub m i ≤ m then nodesTo sub m i + sub i (m - nodesTo sub m i) else nodesTo sub m i
/-- The number of nodes, at most about m. -/
def nodesB : RN → Int → Int
  | .mk _ _ _ n kid, m => nodesTo (fun i m' => if h : i < n then nodesB (kid ⟨i, h⟩) m' else 1) m n
theorem nodesTo_congr {f g : Nat → Int → Int} {m : Int} : ∀ {n : Nat}, (∀ i, i < n → ∀ k, f i k = g i k) → nodesTo f m n = nodesTo g m n
  | 0, _ => rfl
  | n + 1, h => by
    simp only [nodesTo]
    rw [nodesTo_congr (fun i hi => h i (by omega)), h n (by omega)]
theorem nodesB_eq (x : RN) (m : Int) : nodesB x m = nodesTo (fun i m' => nodesB (x.kid i) m') m x.n := by
  cases x with
  | mk v t0 t1 n kid =>
    rw [nodesB]
    refine nodesTo_congr fun i hi k => ?_
    have hi' : i < n := hi
    rw [dif_pos hi', RN.kid_mk _ _ _ _ _ _ hi']
theorem nodesTo_stop {f : Nat → Int → Int} {m : Int} {i : Nat} (h : m < nodesTo f m i) : ∀ j, i ≤ j → nodesTo f m j = nodesTo f m i := by
  intro j hj
  induction j with
  | zero => have : i = 0 := by omega
            rw [this]
  | succ j ih =>
    by_cases hij : i = j + 1
    · rw [hij]
    · have e := ih (by omega)
      simp only [nodesTo]
      rw [e, if_neg (by omega)]
theorem nodesTo_bound {f : Nat → Int → Int} {m : Int} (h0 : 0 ≤ m) : ∀ {n : Nat}, (∀ i, i < n → ∀ k, 0 ≤ k → 1 ≤ f i k ∧ f i k ≤ k + 1) → 1 ≤ nodesTo f m n ∧ nodesTo f m n ≤ m + 1
  | 0, _ => by simp [nodesTo]; omega
  | n + 1, h => by
    have ih := nodesTo_bound h0 (n := n) (fun i hi => h i (by omega))
    simp only [nodesTo]
    split
    · have := h n (by omega) (m - nodesTo f m n) (by omega)
      omega
    · omega
theorem nodesB_bound (x : RN) : ∀ m : Int, 0 ≤ m → 1 ≤ nodesB x m ∧ nodesB x m ≤ m + 1 := by
  induction x with
  | mk v t0 t1 n kid ih =>
    intro m h0
    rw [nodesB]
    refine nodesTo_bound h0 fun i hi k hk => ?_
    rw [dif_pos hi]
    exact ih ⟨i, hi⟩ k hk

set_option maxRecDepth 100000 in
set_option maxHeartbeats 1000000 in
theorem r_nodes_step (cs : Array Value) (x : RN) (m : Int) (w : World) (h : RdVals w cs 11 (encN x)) (h0 : 0 ≤ m) (h4 : m ≤ 400) (sub : Nat → Int → Int) (hb : ∀ i, i < x.n → ∀ k, 0 ≤ k → 1 ≤ sub i k ∧ sub i k ≤ k + 1)
    (IH : ∀ (i : Nat) (k : Int) (cs' : Array Value) (w' : World), i < x.n → 0 ≤ k → k ≤ 400 → RdVals w' cs' 11 (encN (x.kid i)) → Calls Try.prog 66 #[.agg cs', .int .i64 k] w' fun e w'' => e = .returned (.int .i64 (sub i k)) ∧ Below w'.heap.size w' w'') :
    Calls Try.prog 66 #[.agg cs, .int .i64 m] w fun e w' => e = .returned (.int .i64 (nodesTo sub m x.n)) ∧ Below w.heap.size w w' := by
  obtain ⟨A, cap, rfl, hk⟩ := rdN_open h
  have hcap := (encK_n hk).2
  have HK := Lib.hid hk
  have HI := Lib.hid IH
  have HB := Lib.hid hb
  clear h hk IH hb
  go_enter Try.func66, Try.ntmps66
  go_wp2_with fail
  go_loopw [5, 6] (fun s i wr => ∃ k : Nat, k ≤ x.n ∧ i = .int .i64 k ∧ s = .int .i64 (nodesTo sub m k) ∧ ∃ X, wr = (w.alloc (.cells (cellsN x (.slice A x.n cap)) 26)).plus X) (fun _ i _ => x.n - (intOf i).toNat)
  case atStart => exact ⟨0, by omega, rfl, rfl, plus_of_below (by (repeat' (first | (with_reducible exact Below.refl _ _) | (with_reducible assumption) | (with_reducible refine below_plus ?_ ?_ _) | (with_reducible refine Below.alloc ?_ ?_ _) | (with_reducible refine Below.drew ?_) | (with_reducible refine below_drewN ?_ _) | (with_reducible refine Below.setCell ?_ ?_ _) | (first | omega | (simp only [World.size_alloc, size_plus, World.size_drew, World.size_setCell] <;> omega) | (simp <;> omega)) | omega | (simp; omega))))⟩
  case round =>
    obtain ⟨k, hk, rfl, rfl, Y, rfl⟩ := hrel
    have hbk := nodesTo_bound (f := sub) h0 (n := k) (fun i hi => HB.out i (by omega))
    have hb1 := hbk.1
    have hb2 := hbk.2
    clear hbk
    by_cases hlt : k < x.n
    · by_cases hle : nodesTo sub m k ≤ m
      · obtain ⟨g, b, s, rfl, hgl, -, hvk, hck⟩ := encK_kid (i := k) HK.out hlt
        have HC := Lib.hid hck
        have HV := Lib.hid hvk
        have hs := HB.out k hlt (m - nodesTo sub m k) (by omega)
        have hs1 := hs.1
        have hs2 := hs.2
        have HS : Hid (nodesTo sub m (k + 1) = nodesTo sub m k + sub k (m - nodesTo sub m k)) := by unfold Hid; simp only [nodesTo]; rw [if_pos hle]
        clear hck hvk hs
        generalize nodesTo sub m k = q at *
        go_wp2_with (first
          | ((with_reducible refine wpList_loadN (.tmp 23) ?_ ?_ (g) (b + k * 11) ?_ (x.kid k) (s) ?_ ?_); (with_reducible rfl); rfl; rfl; (intro j v hj; exact below_keeps (by (repeat' (first | (with_reducible exact Below.refl _ _) | (with_reducible assumption) | (with_reducible refine below_plus ?_ ?_ _) | (with_reducible refine Below.alloc ?_ ?_ _) | (with_reducible refine Below.drew ?_) | (with_reducible refine below_drewN ?_ _) | (with_reducible refine Below.setCell ?_ ?_ _) | (first | omega | (simp only [World.size_alloc, size_plus, World.size_drew, World.size_setCell] <;> omega) | (simp <;> omega)) | omega | (simp; omega)))) _ _ (HC.out j v hj)))
          | (go_at_call 66; refine (HI.out k (m - q) _ _ hlt (by omega) (by omega) ?_).mono ?_; exact HV.out.keep (below_keeps (by (repeat' (first | (with_reducible exact Below.refl _ _) | (with_reducible assumption) | (with_reducible refine below_plus ?_ ?_ _) | (with_reducible refine Below.alloc ?_ ?_ _) | (with_reducible refine Below.drew ?_) | (with_reducible refine below_drewN ?_ _) | (with_reducible refine Below.setCell ?_ ?_ _) | (first | omega | (simp only [World.size_alloc, size_plus, World.size_drew, World.size_setCell] <;> omega) | (simp <;> omega)) | omega | (simp; omega))))); rintro e w' ⟨rfl, hb⟩; (first | (obtain ⟨X, rfl⟩ := plus_again hb) | (obtain ⟨X, rfl⟩ := plus_of_below hb)); clear hb))
        exact ⟨⟨k + 1, by omega, by go_num, by rw [HS.out], plus_of_below (by (repeat' (first | (with_reducible exact Below.refl _ _) | (with_reducible assumption) | (with_reducible refine below_plus ?_ ?_ _) | (with_reducible refine Below.alloc ?_ ?_ _) | (with_reducible refine Below.drew ?_) | (with_reducible refine below_drewN ?_ _) | (with_reducible refine Below.setCell ?_ ?_ _) | (first | omega | (simp only [World.size_alloc, size_plus, World.size_drew, World.size_setCell] <;> omega) | (simp <;> omega)) | omega | (simp; omega))))⟩, by simp [intOf]; omega⟩
      · have hst : nodesTo sub m x.n = nodesTo sub m k := nodesTo_stop (by omega) _ hk
        have HST := Lib.hid hst
        clear hst
        go_wp2_with fail
        go_ret
        exact ⟨by rw [HST.out]; rfl, by (repeat' (first | (with_reducible exact Below.refl _ _) | (with_reducible assumption) | (with_reducible refine below_plus ?_ ?_ _) | (with_reducible refine Below.alloc ?_ ?_ _) | (with_reducible refine Below.drew ?_) | (with_reducible refine below_drewN ?_ _) | (with_reducible refine Below.setCell ?_ ?_ _) | (first | omega | (simp only [World.size_alloc, size_plus, World.size_drew, World.size_setCell] <;> omega) | (simp <;> omega)) | omega | (simp; omega)))⟩
    · obtain rfl : k = x.n := by omega
      go_wp2_with fail
      go_ret
      exact ⟨rfl, by (repeat' (first | (with_reducible exact Below.refl _ _) | (with_reducible assumption) | (with_reducible refine below_plus ?_ ?_ _) | (with_reducible refine Below.alloc ?_ ?_ _) | (with_reducible refine Below.drew ?_) | (with_reducible refine below_drewN ?_ _) | (with_reducible refine Below.setCell ?_ ?_ _) | (first | omega | (simp only [World.size_alloc, size_plus, World.size_drew, World.size_setCell] <;> omega) | (simp <;> omega)) | omega | (simp; omega)))⟩

theorem r_nodes (x : RN) : ∀ (m : Int) (cs : Array Value) (w : World), 0 ≤ m → m ≤ 400 → RdVals w cs 11 (encN x) →
    Calls Try.prog 66 #[.agg cs, .int .i64 m] w fun e w' => e = .returned (.int .i64 (nodesB x m)) ∧ Below w.heap.size w w' := by
  induction x with
  | mk v t0 t1 n kid ih =>
    intro m cs w h0 h4 h
    rw [nodesB_eq]
    exact r_nodes_step cs _ m w h h0 h4 _ (fun i _ k hk => nodesB_bound _ k hk) fun i k cs' w' hi k0 k4 a => by
      have hi' : i < n := hi
      rw [RN.kid_mk _ _ _ _ _ _ hi'] at a ⊢
      exact ih ⟨i, hi'⟩ k cs' w' k0 k4 a

/-- Few: at most 400 nodes. -/
def fewB (x : RN) : Bool := decide (nodesB x 400 ≤ 400)
set_option maxRecDepth 100000 in
set_option maxHeartbeats 1000000 in
theorem r_Few (cs : Array Value) (ht : Int) (x : RN) (w : World) (h : RdVals w cs 12 (encR ht x)) :
    Calls Try.prog 18 #[.agg cs] w fun e w' => e = .returned (.bool (fewB x)) ∧ Below w.heap.size w w' := by
  obtain ⟨A, cap, rfl, hk⟩ := rdR_open h
  have HV : Hid (RdVals w (cellsN x (.slice A x.n cap)) 11 (encN x)) := rdN_shut hk
  clear h hk
  go_enter Try.func18, Try.ntmps18
  go_wp2_with (go_at_call 66; refine (r_nodes x 400 _ _ (by omega) (by omega) ?_).mono ?_; exact HV.out.keep (below_keeps (by (repeat' (first | (with_reducible exact Below.refl _ _) | (with_reducible assumption) | (with_reducible refine below_plus ?_ ?_ _) | (with_reducible refine Below.alloc ?_ ?_ _) | (with_reducible refine Below.drew ?_) | (with_reducible refine below_drewN ?_ _) | (with_reducible refine Below.setCell ?_ ?_ _) | (first | omega | (simp only [World.size_alloc, size_plus, World.size_drew, World.size_setCell] <;> omega) | (simp <;> omega)) | omega | (simp; omega))))); rintro e w' ⟨rfl, hb⟩; (first | (obtain ⟨X, rfl⟩ := plus_again hb) | (obtain ⟨X, rfl⟩ := plus_of_below hb)); clear hb)
  go_ret
  exact ⟨rfl, by (repeat' (first | (with_reducible exact Below.refl _ _) | (with_reducible assumption) | (with_reducible refine below_plus ?_ ?_ _) | (with_reducible refine Below.alloc ?_ ?_ _) | (with_reducible refine Below.drew ?_) | (with_reducible refine below_drewN ?_ _) | (with_reducible refine Below.setCell ?_ ?_ _) | (first | omega | (simp only [World.size_alloc, size_plus, World.size_drew, World.size_setCell] <;> omega) | (simp <;> omega)) | omega | (simp; omega)))⟩

/-- No entry below the node. -/
def emptyB : RN → Bool
  | .mk v _ _ n kid => zero8 v && allTo (fun i => if h : i < n then emptyB (kid ⟨i, h⟩) else true) n
theorem emptyB_eq (x : RN) : emptyB x = (zero8 x.v && allTo (fun i => emptyB (x.kid i)) x.n) := by
  cases x with
  | mk v t0 t1 n kid =>
    rw [emptyB]
    refine congrArg (zero8 v && ·) (allTo_congr fun i hi => ?_)
    rw [dif_pos hi, RN.kid_mk _ _ _ _ _ _ hi]

set_option maxRecDepth 100000 in
set_option maxHeartbeats 1000000 in
theorem p_empty_step (cs : Array Value) (x : RN) (w : World) (h : RdVals w cs 11 (encN x)) (sub : Nat → Bool)
    (IH : ∀ (i : Nat) (cs' : Array Value) (w' : World), i < x.n → RdVals w' cs' 11 (encN (x.kid i)) → Calls Try.prog 100 #[.agg cs'] w' fun e w'' => e = .returned (.bool (sub i)) ∧ Below w'.heap.size w' w'') :
    Calls Try.prog 100 #[.agg cs] w fun e w' => e = .returned (.bool (zero8 x.v && allTo sub x.n)) ∧ Below w.heap.size w w' := by
  obtain ⟨A, cap, rfl, hk⟩ := rdN_open h
  have hcap := (encK_n hk).2
  have HK := Lib.hid hk
  have HI := Lib.hid IH
  clear h hk IH
  cases hz : zero8 x.v with
  | false =>
    go_enter Try.func100, Try.ntmps100
    go_wp2_with fail
    go_ret
    exact ⟨by simp, by (repeat' (first | (with_reducible exact Below.refl _ _) | (with_reducible assumption) | (with_reducible refine below_plus ?_ ?_ _) | (with_reducible refine Below.alloc ?_ ?_ _) | (with_reducible refine Below.drew ?_) | (with_reducible refine below_drewN ?_ _) | (with_reducible refine Below.setCell ?_ ?_ _) | (first | omega | (simp only [World.size_alloc, size_plus, World.size_drew, World.size_setCell] <;> omega) | (simp <;> omega)) | omega | (simp; omega)))⟩
  | true =>
    go_enter Try.func100, Try.ntmps100
    go_wp2_with fail
    go_loopw [12] (fun i wr => ∃ k : Nat, k ≤ x.n ∧ i = .int .i64 k ∧ allTo sub k = true ∧ ∃ X, wr = (w.alloc (.cells (cellsN x (.slice A x.n cap)) 26)).plus X) (fun i _ => x.n - (intOf i).toNat)
    case atStart => exact ⟨0, by omega, rfl, rfl, plus_of_below (by (repeat' (first | (with_reducible exact Below.refl _ _) | (with_reducible assumption) | (with_reducible refine below_plus ?_ ?_ _) | (with_reducible refine Below.alloc ?_ ?_ _) | (with_reducible refine Below.drew ?_) | (with_reducible refine below_drewN ?_ _) | (with_reducible refine Below.setCell ?_ ?_ _) | (first | omega | (simp only [World.size_alloc, size_plus, World.size_drew, World.size_setCell] <;> omega) | (simp <;> omega)) | omega | (simp; omega))))⟩
    case round =>
      obtain ⟨k, hk, rfl, hok, Y, rfl⟩ := hrel
      by_cases hlt : k < x.n
      · obtain ⟨g, b, s, rfl, hgl, hks, hvk, hck⟩ := encK_kid (i := k) HK.out hlt
        obtain ⟨A', cap2, rfl, -⟩ := hks
        have HC := Lib.hid hck
        have HV := Lib.hid hvk
        clear hck hvk
        cases he : sub k
        all_goals
          go_wp2_with (first
            | ((with_reducible refine wpList_loadN (.tmp 14) ?_ ?_ (g) (b + k * 11) ?_ (x.kid k) (.slice A' (x.kid k).n cap2) ?_ ?_); (with_reducible rfl); rfl; rfl; (intro j v hj; exact below_keeps (by (repeat' (first | (with_reducible exact Below.refl _ _) | (with_reducible assumption) | (with_reducible refine below_plus ?_ ?_ _) | (with_reducible refine Below.alloc ?_ ?_ _) | (with_reducible refine Below.drew ?_) | (with_reducible refine below_drewN ?_ _) | (with_reducible refine Below.setCell ?_ ?_ _) | (first | omega | (simp only [World.size_alloc, size_plus, World.size_drew, World.size_setCell] <;> omega) | (simp <;> omega)) | omega | (simp; omega)))) _ _ (HC.out j v hj)))
            | ((with_reducible refine wpList_storeN_new (.tmp 4) (.tmp 15) ?_ ?_ (w.heap.size + 1 + Y.objs.size) ?_ (x.kid k) A' (x.kid k).n cap2 ?_ ?_ ?_ ?_); (with_reducible rfl); rfl; rfl; rfl; rfl; (focus (first | omega | (simp only [World.size_alloc, size_plus, World.size_drew, World.size_setCell] <;> omega) | (simp <;> omega))))
            | (go_at_call 100; refine (HI.out k _ _ hlt ?_).mono ?_; exact HV.out.keep (below_keeps (by (repeat' (first | (with_reducible exact Below.refl _ _) | (with_reducible assumption) | (with_reducible refine below_plus ?_ ?_ _) | (with_reducible refine Below.alloc ?_ ?_ _) | (with_reducible refine Below.drew ?_) | (with_reducible refine below_drewN ?_ _) | (with_reducible refine Below.setCell ?_ ?_ _) | (first | omega | (simp only [World.size_alloc, size_plus, World.size_drew, World.size_setCell] <;> omega) | (simp <;> omega)) | omega | (simp; omega))))); rintro e w' ⟨rfl, hb⟩; (first | (obtain ⟨X, rfl⟩ := plus_again hb) | (obtain ⟨X, rfl⟩ := plus_of_below hb)); clear hb; rw [he]))
          first
            | (go_ret
               exact ⟨by simp [allTo_not hlt he], by (repeat' (first | (with_reducible exact Below.refl _ _) | (with_reducible assumption) | (with_reducible refine below_plus ?_ ?_ _) | (with_reducible refine Below.alloc ?_ ?_ _) | (with_reducible refine Below.drew ?_) | (with_reducible refine below_drewN ?_ _) | (with_reducible refine Below.setCell ?_ ?_ _) | (first | omega | (simp only [World.size_alloc, size_plus, World.size_drew, World.size_setCell] <;> omega) | (simp <;> omega)) | omega | (simp; omega)))⟩)
            | exact ⟨⟨k + 1, by omega, by go_num, by rw [allTo_succ, hok, he]; rfl, plus_of_below (by (repeat' (first | (with_reducible exact Below.refl _ _) | (with_reducible assumption) | (with_reducible refine below_plus ?_ ?_ _) | (with_reducible refine Below.alloc ?_ ?_ _) | (with_reducible refine Below.drew ?_) | (with_reducible refine below_drewN ?_ _) | (with_reducible refine Below.setCell ?_ ?_ _) | (first | omega | (simp only [World.size_alloc, size_plus, World.size_drew, World.size_setCell] <;> omega) | (simp <;> omega)) | omega | (simp; omega))))⟩, by simp [intOf]; omega⟩
      · obtain rfl : k = x.n := by omega
        go_wp2_with fail
        go_ret
        exact ⟨by simp [hok], by (repeat' (first | (with_reducible exact Below.refl _ _) | (with_reducible assumption) | (with_reducible refine below_plus ?_ ?_ _) | (with_reducible refine Below.alloc ?_ ?_ _) | (with_reducible refine Below.drew ?_) | (with_reducible refine below_drewN ?_ _) | (with_reducible refine Below.setCell ?_ ?_ _) | (first | omega | (simp only [World.size_alloc, size_plus, World.size_drew, World.size_setCell] <;> omega) | (simp <;> omega)) | omega | (simp; omega)))⟩

theorem p_empty (x : RN) : ∀ (cs : Array Value) (w : World), RdVals w cs 11 (encN x) →
    Calls Try.prog 100 #[.agg cs] w fun e w' => e = .returned (.bool (emptyB x)) ∧ Below w.heap.size w w' := by
  induction x with
  | mk v t0 t1 n kid ih =>
    intro cs w h
    rw [emptyB_eq]
    exact p_empty_step cs _ w h _ fun i cs' w' hi a => by
      have hi' : i < n := hi
      rw [RN.kid_mk _ _ _ _ _ _ hi'] at a ⊢
      exact ih ⟨i, hi'⟩ cs' w' a

end Go.Proofs.Ytcicfijpfhbcaaa
