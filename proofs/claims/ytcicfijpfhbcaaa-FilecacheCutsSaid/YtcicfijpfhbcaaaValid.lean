/-
  radix.valid: its walk.
-/
import Derived.Test.YtcicfijpfhbcaaaNode2
namespace Go.Proofs.Ytcicfijpfhbcaaa
set_option linter.unusedSimpArgs false
set_option linter.unusedVariables false
set_option linter.unusedSectionVars false
open Go.RowKit

/-- Bit i of a mask, as Go has it of an int. -/
def bitB (m : Int) (i : Nat) : Bool := bits .and .i64 (m / 2 ^ i) 1 == 1

/-- An entry or a child number i exists. -/
def exB (x : RN) (l : Int) (i : Nat) : Bool := if 1 < l then !absentB (x.kid i) else x.v i != 0
def anyB (x : RN) (l : Int) (k : Nat) : Bool := (List.range k).any (exB x l)
/-- Tag j of entry i agrees with what is there. -/
def tagB (x : RN) (l : Int) (i j : Nat) : Bool := (!bitB (x.t j) i || exB x l i) && (!decide (1 < l) || bitB (x.t j) i == ((x.kid i).t j != 0))
def tagTo (x : RN) (l : Int) (i m : Nat) : Bool := (List.range m).all (tagB x l i)
def finB (x : RN) (l : Int) : Bool := decide (0 ≤ x.t0) && decide (x.t0 < 256) && decide (0 ≤ x.t1) && decide (x.t1 < 256) && (decide (1 < l) || (x.n : Int) == 0)
/-- Round i of the loop in 'valid' finds nothing wrong; 'sub': the child is valid. -/
def okB (x : RN) (l : Int) (sub : Nat → Bool) (i : Nat) : Bool := (!decide (1 < l) || x.n == 8 && x.v i == 0 && (absentB (x.kid i) || sub i)) && tagTo x l i 2
def okTo (x : RN) (l : Int) (sub : Nat → Bool) (k : Nat) : Bool := (List.range k).all (okB x l sub)
def validW (x : RN) (l : Int) (sub : Nat → Bool) : Bool := !absentB x && okTo x l sub 8 && anyB x l 8 && finB x l
/-- The node is well formed for the level l. -/
def validB : RN → Int → Bool
  | .mk v t0 t1 n kid, l => validW (.mk v t0 t1 n kid) l (fun i => if h : i < n then validB (kid ⟨i, h⟩) (l - 1) else false)
theorem validB_zero (l : Int) : validB zeroN l = false := by
  unfold zeroN
  rw [validB]
  unfold validW
  have : absentB (.mk (fun _ => 0) 0 0 0 (fun i => absurd i.2 (by omega))) = true := by decide
  rw [this]; rfl
theorem validB_eq (x : RN) (l : Int) : validB x l = validW x l (fun i => validB (x.kid i) (l - 1)) := by
  cases x with
  | mk v t0 t1 n kid =>
    rw [validB]
    congr 1
    funext i
    by_cases h : i < n
    · rw [dif_pos h, RN.kid_mk _ _ _ _ _ _ h]
    · rw [dif_neg h]; simp [RN.kid, h, validB_zero]

theorem tagTo_succ (x : RN) (l : Int) (i m : Nat) : tagTo x l i (m + 1) = (tagTo x l i m && tagB x l i m) := by simp [tagTo, List.range_succ]
theorem anyB_succ (x : RN) (l : Int) (k : Nat) : anyB x l (k + 1) = (anyB x l k || exB x l k) := by simp [anyB, List.range_succ]
theorem okTo_succ (x : RN) (l : Int) (sub : Nat → Bool) (k : Nat) : okTo x l sub (k + 1) = (okTo x l sub k && okB x l sub k) := by simp [okTo, List.range_succ]
theorem validW_not {x : RN} {l : Int} {sub : Nat → Bool} {k : Nat} (hk : k < 8) (h : okB x l sub k = false) : validW x l sub = false := by
  have : okTo x l sub 8 = false := by
    rw [okTo, List.all_eq_false]
    exact ⟨k, List.mem_range.2 hk, by simp [h]⟩
  simp [validW, this]
theorem okB_not_tag {x : RN} {l : Int} {sub : Nat → Bool} {k m : Nat} (hm : m < 2) (h : tagB x l k m = false) : okB x l sub k = false := by
  have : tagTo x l k 2 = false := by
    rw [tagTo, List.all_eq_false]
    exact ⟨m, List.mem_range.2 hm, by simp [h]⟩
  simp [okB, this]

set_option maxRecDepth 100000 in
set_option maxHeartbeats 1000000 in
theorem p_valid_leaf (cs : Array Value) (x : RN) (w : World) (h : RdVals w cs 11 (encN x)) (sub : Nat → Bool) :
    Calls Try.prog 68 #[.agg cs, .int .i64 1] w fun e w' => e = .returned (.bool (validW x 1 sub)) ∧ Below w.heap.size w w' := by
  obtain ⟨A, cap, rfl, hk⟩ := rdN_open h
  have hcap := (encK_n hk).2
  have hg : ∀ j, j < 8 → (cellsN x (.slice A x.n cap))[j]? = some (.int .i64 (x.v j)) := cellsN_v x _
  have HR := Lib.hid h
  clear hk h
  cases hab : absentB x with
  | true =>
    go_enter Try.func68, Try.ntmps68
    go_wp2_with (go_at_call 67; refine (p_absent _ x _ ?_).mono ?_; exact HR.out.below (below_alloc _ _); rintro e w' ⟨rfl, hb⟩; (first | (obtain ⟨X, rfl⟩ := plus_again hb) | (obtain ⟨X, rfl⟩ := plus_of_below hb)); clear hb; rw [hab])
    go_ret
    exact ⟨by simp [validW, hab], below_plus (below_alloc _ _) (by simp) _⟩
  | false =>
    go_enter Try.func68, Try.ntmps68
    go_wp2_with (go_at_call 67; refine (p_absent _ x _ ?_).mono ?_; exact HR.out.below (below_alloc _ _); rintro e w' ⟨rfl, hb⟩; (first | (obtain ⟨X, rfl⟩ := plus_again hb) | (obtain ⟨X, rfl⟩ := plus_of_below hb)); clear hb; rw [hab])
    go_loopw [5, 14] (fun s i wr => ∃ k : Nat, k ≤ 8 ∧ i = .int .i64 k ∧ s = .bool (anyB x 1 k) ∧ okTo x 1 sub k = true ∧ ∃ X, wr = (w.alloc (.cells (cellsN x (.slice A x.n cap)) 26)).plus X) (fun _ i _ => 8 - (intOf i).toNat)
    case atStart => exact ⟨0, by omega, rfl, rfl, rfl, X, rfl⟩
    case round =>
      obtain ⟨k, hk, rfl, rfl, hok, Y, rfl⟩ := hrel
      by_cases hlt : k < 8
      · have hv := hg k hlt
        have HG := Lib.hid hg
        have Hex : Hid (∀ j, tagB x 1 k j = (!bitB (x.t j) k || x.v k != 0)) := fun j => by simp [tagB, exB]
        clear hg
        go_wp2_with fail
        all_goals
          go_loop [74] (fun i => ∃ m : Nat, m ≤ 2 ∧ i = .int .i64 m ∧ tagTo x 1 k m = true) (fun i => 2 - (intOf i).toNat)
        case atStart => exact ⟨0, by omega, rfl, rfl⟩
        case atStart => exact ⟨0, by omega, rfl, rfl⟩
        all_goals
          obtain ⟨m, hm, rfl, htg⟩ := hrel
          by_cases hm2 : m < 2
          · have hix := fun w => index2 x w m hm2
            go_wp2_with fail
            all_goals first
              | (exfalso; simp_all; done)
              | (go_ret
                 exact ⟨by rw [validW_not hlt (okB_not_tag hm2 (by rw [Hex.out]; simp [bitB, *]))]; rfl, by (repeat' (first | (with_reducible exact Below.refl _ _) | (with_reducible assumption) | (with_reducible refine below_plus ?_ ?_ _) | (with_reducible refine Below.alloc ?_ ?_ _) | (with_reducible refine Below.drew ?_) | (with_reducible refine below_drewN ?_ _) | (with_reducible refine Below.setCell ?_ ?_ _) | (first | omega | (simp only [World.size_alloc, size_plus, World.size_drew, World.size_setCell] <;> omega) | (simp <;> omega)) | omega | (simp; omega)))⟩)
              | exact ⟨⟨m + 1, by omega, by go_num, by rw [tagTo_succ, htg, Hex.out]; simp [bitB, *]⟩, by simp [intOf]; omega⟩
          · obtain rfl : m = 2 := by omega
            go_wp2_with fail
            exact ⟨⟨k + 1, by omega, by go_num, by rw [anyB_succ]; simp [exB, *], by rw [okTo_succ, hok]; simp [okB, htg], plus_of_below (by (repeat' (first | (with_reducible exact Below.refl _ _) | (with_reducible assumption) | (with_reducible refine below_plus ?_ ?_ _) | (with_reducible refine Below.alloc ?_ ?_ _) | (with_reducible refine Below.drew ?_) | (with_reducible refine below_drewN ?_ _) | (with_reducible refine Below.setCell ?_ ?_ _) | (first | omega | (simp only [World.size_alloc, size_plus, World.size_drew, World.size_setCell] <;> omega) | (simp <;> omega)) | omega | (simp; omega))))⟩, by simp [intOf]; omega⟩
      · obtain rfl : k = 8 := by omega
        clear hlt hk hg
        go_wp2_with fail
        all_goals
          go_ret
          exact ⟨by simp [validW, hab, hok, finB, *] <;> (intros; omega), by (repeat' (first | (with_reducible exact Below.refl _ _) | (with_reducible assumption) | (with_reducible refine below_plus ?_ ?_ _) | (with_reducible refine Below.alloc ?_ ?_ _) | (with_reducible refine Below.drew ?_) | (with_reducible refine below_drewN ?_ _) | (with_reducible refine Below.setCell ?_ ?_ _) | (first | omega | (simp only [World.size_alloc, size_plus, World.size_drew, World.size_setCell] <;> omega) | (simp <;> omega)) | omega | (simp; omega)))⟩
set_option maxRecDepth 100000 in
set_option maxHeartbeats 1000000 in
theorem p_valid_inner (cs : Array Value) (x : RN) (l : Int) (w : World) (h : RdVals w cs 11 (encN x)) (sub : Nat → Bool) (h1 : 1 < l) (h10 : l ≤ 10)
    (IH : ∀ (i : Nat) (cs' : Array Value) (w' : World), i < x.n → RdVals w' cs' 11 (encN (x.kid i)) → Calls Try.prog 68 #[.agg cs', .int .i64 (l - 1)] w' fun e w'' => e = .returned (.bool (sub i)) ∧ Below w'.heap.size w' w'') :
    Calls Try.prog 68 #[.agg cs, .int .i64 l] w fun e w' => e = .returned (.bool (validW x l sub)) ∧ Below w.heap.size w w' := by
  obtain ⟨A, cap, rfl, hk⟩ := rdN_open h
  have hcap := (encK_n hk).2
  have hg : ∀ j, j < 8 → (cellsN x (.slice A x.n cap))[j]? = some (.int .i64 (x.v j)) := cellsN_v x _
  have HR := Lib.hid h
  have HK := Lib.hid hk
  have HI := Lib.hid IH
  clear hk h IH
  cases hab : absentB x with
  | true =>
    go_enter Try.func68, Try.ntmps68
    go_wp2_with (go_at_call 67; refine (p_absent _ x _ ?_).mono ?_; exact HR.out.below (below_alloc _ _); rintro e w' ⟨rfl, hb⟩; (first | (obtain ⟨X, rfl⟩ := plus_again hb) | (obtain ⟨X, rfl⟩ := plus_of_below hb)); clear hb; rw [hab])
    go_ret
    exact ⟨by simp [validW, hab], below_plus (below_alloc _ _) (by simp) _⟩
  | false =>
    go_enter Try.func68, Try.ntmps68
    go_wp2_with (go_at_call 67; refine (p_absent _ x _ ?_).mono ?_; exact HR.out.below (below_alloc _ _); rintro e w' ⟨rfl, hb⟩; (first | (obtain ⟨X, rfl⟩ := plus_again hb) | (obtain ⟨X, rfl⟩ := plus_of_below hb)); clear hb; rw [hab])
    go_loopw [5, 14] (fun s i wr => ∃ k : Nat, k ≤ 8 ∧ i = .int .i64 k ∧ s = .bool (anyB x l k) ∧ okTo x l sub k = true ∧ ∃ X, wr = (w.alloc (.cells (cellsN x (.slice A x.n cap)) 26)).plus X) (fun _ i _ => 8 - (intOf i).toNat)
    case atStart => exact ⟨0, by omega, rfl, rfl, rfl, X, rfl⟩
    case round =>
      obtain ⟨k, hk, rfl, rfl, hok, Y, rfl⟩ := hrel
      by_cases hlt : k < 8
      · have hv := hg k hlt
        have HG := Lib.hid hg
        clear hg
        by_cases hn : x.n = 8
        · obtain ⟨g, b, s, rfl, hgl, hsk, hvk, hck⟩ := encK_kid (i := k) HK.out (by omega)
          have c8 : w.cell? ⟨g, b + k * 11 + 8, none⟩ = some (.int .i64 (x.kid k).t0) := hck 8 _ rfl
          have c9 : w.cell? ⟨g, b + k * 11 + 9, none⟩ = some (.int .i64 (x.kid k).t1) := hck 9 _ rfl
          have hn1 : 8 ≤ x.n := by omega
          have hn2 : ((x.n : Int) != 8) = false := by rw [hn]; rfl
          have HN := Lib.hid hn
          clear hn
          have HV := Lib.hid hvk
          have HC := Lib.hid hck
          clear hvk hck hsk
          have Htg : Hid (∀ j, tagB x l k j = ((!bitB (x.t j) k || !absentB (x.kid k)) && (bitB (x.t j) k == ((x.kid k).t j != 0)))) := fun j => by simp [tagB, exB, h1]
          cases hv0 : (x.v k != 0) <;> cases hak : absentB (x.kid k) <;> cases hsb : sub k
          all_goals
            go_wp2_with (first
              | (go_at_call 67; refine (p_absent _ (x.kid k) _ ?_).mono ?_; exact HV.out.keep (below_keeps (by (repeat' (first | (with_reducible exact Below.refl _ _) | (with_reducible assumption) | (with_reducible refine below_plus ?_ ?_ _) | (with_reducible refine Below.alloc ?_ ?_ _) | (with_reducible refine Below.drew ?_) | (with_reducible refine below_drewN ?_ _) | (with_reducible refine Below.setCell ?_ ?_ _) | (first | omega | (simp only [World.size_alloc, size_plus, World.size_drew, World.size_setCell] <;> omega) | (simp <;> omega)) | omega | (simp; omega))))); rintro e w' ⟨rfl, hb⟩; (first | (obtain ⟨X, rfl⟩ := plus_again hb) | (obtain ⟨X, rfl⟩ := plus_of_below hb)); clear hb; rw [hak])
              | (go_at_call 68; refine (HI.out k _ _ (by omega) ?_).mono ?_; exact HV.out.keep (below_keeps (by (repeat' (first | (with_reducible exact Below.refl _ _) | (with_reducible assumption) | (with_reducible refine below_plus ?_ ?_ _) | (with_reducible refine Below.alloc ?_ ?_ _) | (with_reducible refine Below.drew ?_) | (with_reducible refine below_drewN ?_ _) | (with_reducible refine Below.setCell ?_ ?_ _) | (first | omega | (simp only [World.size_alloc, size_plus, World.size_drew, World.size_setCell] <;> omega) | (simp <;> omega)) | omega | (simp; omega))))); rintro e w' ⟨rfl, hb⟩; (first | (obtain ⟨X, rfl⟩ := plus_again hb) | (obtain ⟨X, rfl⟩ := plus_of_below hb)); clear hb; rw [hsb])
              | ((with_reducible refine wpList_loadN (.tmp 35) ?_ ?_ (g) (b + k * 11) ?_ (x.kid k) (s) ?_ ?_); (with_reducible rfl); rfl; rfl; (intro j v hj; exact below_keeps (by (repeat' (first | (with_reducible exact Below.refl _ _) | (with_reducible assumption) | (with_reducible refine below_plus ?_ ?_ _) | (with_reducible refine Below.alloc ?_ ?_ _) | (with_reducible refine Below.drew ?_) | (with_reducible refine below_drewN ?_ _) | (with_reducible refine Below.setCell ?_ ?_ _) | (first | omega | (simp only [World.size_alloc, size_plus, World.size_drew, World.size_setCell] <;> omega) | (simp <;> omega)) | omega | (simp; omega)))) _ _ (HC.out j v hj)))
              | ((with_reducible refine wpList_loadN (.tmp 44) ?_ ?_ (g) (b + k * 11) ?_ (x.kid k) (s) ?_ ?_); (with_reducible rfl); rfl; rfl; (intro j v hj; exact below_keeps (by (repeat' (first | (with_reducible exact Below.refl _ _) | (with_reducible assumption) | (with_reducible refine below_plus ?_ ?_ _) | (with_reducible refine Below.alloc ?_ ?_ _) | (with_reducible refine Below.drew ?_) | (with_reducible refine below_drewN ?_ _) | (with_reducible refine Below.setCell ?_ ?_ _) | (first | omega | (simp only [World.size_alloc, size_plus, World.size_drew, World.size_setCell] <;> omega) | (simp <;> omega)) | omega | (simp; omega)))) _ _ (HC.out j v hj))))
          all_goals first
            | (go_region; go_wp2_with fail; all_goals (go_loop [74] (fun i => ∃ m : Nat, m ≤ 2 ∧ i = .int .i64 m ∧ tagTo x l k m = true) (fun i => 2 - (intOf i).toNat)))
            | (go_ret
               exact ⟨by rw [validW_not hlt (by first | (simp [okB, *]; done) | simp_all [okB])]; rfl, by (repeat' (first | (with_reducible exact Below.refl _ _) | (with_reducible assumption) | (with_reducible refine below_plus ?_ ?_ _) | (with_reducible refine Below.alloc ?_ ?_ _) | (with_reducible refine Below.drew ?_) | (with_reducible refine below_drewN ?_ _) | (with_reducible refine Below.setCell ?_ ?_ _) | (first | omega | (simp only [World.size_alloc, size_plus, World.size_drew, World.size_setCell] <;> omega) | (simp <;> omega)) | omega | (simp; omega)))⟩)
          all_goals first
            | exact ⟨0, by omega, rfl, rfl⟩
            | (obtain ⟨m, hm, rfl, htg⟩ := hrel
               by_cases hm2 : m < 2
               · rcases (by omega : m = 0 ∨ m = 1) with rfl | rfl
                 · cases hb : (bits .and .i64 (x.t0 / 2 ^ k) 1 == 1) <;> cases ht : ((x.kid k).t0 != 0) <;> go_wp2_with fail
                   all_goals first
                     | (go_ret; refine ⟨?_, by (repeat' (first | (with_reducible exact Below.refl _ _) | (with_reducible assumption) | (with_reducible refine below_plus ?_ ?_ _) | (with_reducible refine Below.alloc ?_ ?_ _) | (with_reducible refine Below.drew ?_) | (with_reducible refine below_drewN ?_ _) | (with_reducible refine Below.setCell ?_ ?_ _) | (first | omega | (simp only [World.size_alloc, size_plus, World.size_drew, World.size_setCell] <;> omega) | (simp <;> omega)) | omega | (simp; omega)))⟩; rw [validW_not hlt (okB_not_tag (m := 0) hm2 (by rw [Htg.out]; simp only [bitB, RN.t_0, hb, ht, hak]; rfl))]; rfl)
                     | (refine ⟨⟨0 + 1, by omega, by go_num, ?_⟩, by simp [intOf]⟩; rw [tagTo_succ, htg, Htg.out]; simp only [bitB, RN.t_0, hb, ht, hak]; rfl)
                 · cases hb : (bits .and .i64 (x.t1 / 2 ^ k) 1 == 1) <;> cases ht : ((x.kid k).t1 != 0) <;> go_wp2_with fail
                   all_goals first
                     | (go_ret; refine ⟨?_, by (repeat' (first | (with_reducible exact Below.refl _ _) | (with_reducible assumption) | (with_reducible refine below_plus ?_ ?_ _) | (with_reducible refine Below.alloc ?_ ?_ _) | (with_reducible refine Below.drew ?_) | (with_reducible refine below_drewN ?_ _) | (with_reducible refine Below.setCell ?_ ?_ _) | (first | omega | (simp only [World.size_alloc, size_plus, World.size_drew, World.size_setCell] <;> omega) | (simp <;> omega)) | omega | (simp; omega)))⟩; rw [validW_not hlt (okB_not_tag (m := 1) hm2 (by rw [Htg.out]; simp only [bitB, RN.t_1, hb, ht, hak]; rfl))]; rfl)
                     | (refine ⟨⟨1 + 1, by omega, by go_num, ?_⟩, by simp [intOf]⟩; rw [tagTo_succ, htg, Htg.out]; simp only [bitB, RN.t_1, hb, ht, hak]; rfl)
               · obtain rfl : m = 2 := by omega
                 go_wp2_with fail
                 exact ⟨⟨k + 1, by omega, by go_num, by rw [anyB_succ]; simp [exB, *], by rw [okTo_succ, hok]; have hN := HN.out; simp_all [okB], plus_of_below (by (repeat' (first | (with_reducible exact Below.refl _ _) | (with_reducible assumption) | (with_reducible refine below_plus ?_ ?_ _) | (with_reducible refine Below.alloc ?_ ?_ _) | (with_reducible refine Below.drew ?_) | (with_reducible refine below_drewN ?_ _) | (with_reducible refine Below.setCell ?_ ?_ _) | (first | omega | (simp only [World.size_alloc, size_plus, World.size_drew, World.size_setCell] <;> omega) | (simp <;> omega)) | omega | (simp; omega))))⟩, by simp [intOf]; omega⟩)
        · go_wp2_with fail
          all_goals
            go_ret
            exact ⟨by rw [validW_not hlt (by first | (simp [okB, *]; done) | simp_all [okB])]; rfl, by (repeat' (first | (with_reducible exact Below.refl _ _) | (with_reducible assumption) | (with_reducible refine below_plus ?_ ?_ _) | (with_reducible refine Below.alloc ?_ ?_ _) | (with_reducible refine Below.drew ?_) | (with_reducible refine below_drewN ?_ _) | (with_reducible refine Below.setCell ?_ ?_ _) | (first | omega | (simp only [World.size_alloc, size_plus, World.size_drew, World.size_setCell] <;> omega) | (simp <;> omega)) | omega | (simp; omega)))⟩
      · obtain rfl : k = 8 := by omega
        clear hlt hk hg
        go_wp2_with fail
        all_goals
          go_ret
          exact ⟨by simp [validW, hab, hok, finB, *] <;> (intros; omega), by (repeat' (first | (with_reducible exact Below.refl _ _) | (with_reducible assumption) | (with_reducible refine below_plus ?_ ?_ _) | (with_reducible refine Below.alloc ?_ ?_ _) | (with_reducible refine Below.drew ?_) | (with_reducible refine below_drewN ?_ _) | (with_reducible refine Below.setCell ?_ ?_ _) | (first | omega | (simp only [World.size_alloc, size_plus, World.size_drew, World.size_setCell] <;> omega) | (simp <;> omega)) | omega | (simp; omega)))⟩
/-- radix.valid, for every node and every level from 1 to 10. -/
theorem p_valid (x : RN) : ∀ (l : Int) (cs : Array Value) (w : World), 1 ≤ l → l ≤ 10 → RdVals w cs 11 (encN x) →
    Calls Try.prog 68 #[.agg cs, .int .i64 l] w fun e w' => e = .returned (.bool (validB x l)) ∧ Below w.heap.size w w' := by
  induction x with
  | mk v t0 t1 n kid ih =>
    intro l cs w h1 h10 h
    rw [validB_eq]
    by_cases hl : l = 1
    · subst hl
      exact p_valid_leaf cs _ w h _
    · exact p_valid_inner cs _ l w h _ (by omega) h10 fun i cs' w' hi h' => by
        have hi' : i < n := hi
        rw [RN.kid_mk _ _ _ _ _ _ hi'] at h' ⊢
        exact ih ⟨i, hi'⟩ (l - 1) cs' w' (by omega) (by omega) h'

end Go.Proofs.Ytcicfijpfhbcaaa
