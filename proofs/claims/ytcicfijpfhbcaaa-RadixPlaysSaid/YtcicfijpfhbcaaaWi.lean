/-
  radix.walk: an inner node; the whole.
-/
import Derived.Test.YtcicfijpfhbcaaaWk
namespace Go.Proofs.Ytcicfijpfhbcaaa
set_option linter.unusedSimpArgs false
set_option linter.unusedVariables false
set_option linter.unusedSectionVars false
open Go.RowKit

theorem walk_arith (m d : Nat) (first : Int) (hm : m ≤ 8) (hlt : d < 8) (h0 : 0 ≤ first) (h1 : first + 8 ^ (m + 2) ≤ 1073741824) :
    wrap64 ((d : Int) * 2 ^ (3 * (m + 1))) = (d : Int) * 8 ^ (m + 1) ∧ wrap64 (first + (d : Int) * 8 ^ (m + 1)) = first + (d : Int) * 8 ^ (m + 1) ∧
    0 ≤ first + (d : Int) * 8 ^ (m + 1) ∧ first + (d : Int) * 8 ^ (m + 1) + 8 ^ (m + 1) ≤ 1073741824 := by
  have hp8 : (8 : Int) ^ (m + 1) ≤ 134217728 := by
    have : (8 : Nat) ^ (m + 1) ≤ 8 ^ 9 := pow8_mono (by omega)
    have h9 : (8 : Nat) ^ 9 = 134217728 := by decide
    rw [h9] at this
    have h2 : ((8 ^ (m + 1) : Nat) : Int) ≤ 134217728 := Int.ofNat_le.2 this
    rw [Int.natCast_pow] at h2
    exact h2
  have hp0 : (0 : Int) < 8 ^ (m + 1) := by exact_mod_cast pow8_pos (m + 1)
  have hp2 : (8 : Int) ^ (m + 2) = 8 ^ (m + 1) * 8 := by rw [Int.pow_succ]
  have e : (2 : Int) ^ (3 * (m + 1)) = 8 ^ (m + 1) := by exact_mod_cast pow2_8 (m + 1)
  rw [e]
  rw [hp2] at h1
  generalize (8 : Int) ^ (m + 1) = P at *
  have hdp : (d : Int) * P ≤ 7 * P := Int.mul_le_mul_of_nonneg_right (by omega) (by omega)
  have hdp0 : 0 ≤ (d : Int) * P := Int.mul_nonneg (by omega) (by omega)
  generalize (d : Int) * P = R at *
  unfold wrap64
  omega

set_option maxRecDepth 100000 in
set_option maxHeartbeats 1000000 in
theorem p_walk_inner {f : FuncId} {caps : Array Value} {c : Int × Int → Bool} {I : List (Int × Int) → World → Prop} {fp : World → Nat → Prop} (w0 : World) (hy : Yld2 f caps w0.heap.size c I fp) (m : Nat) (hm : m ≤ 8)
    (x : RN) (IH : ∀ (d : Nat) (cs : Array Value) (first : Int) (l : List (Int × Int)) (w : World), d < 8 → RdVals w0 cs 11 (encN (x.kid d)) → Below w0.heap.size w0 w → I l w → okN m (x.kid d) → 0 ≤ first → first + 8 ^ (m + 1) ≤ 1073741824 → (l.length : Int) ≤ first →
      Calls Try.prog 104 #[.agg cs, .int .i64 ((m : Int) + 1), .int .i64 first, .func (.func f) #[] caps] w fun e w' => e = .returned (.bool ((ents m (x.kid d) first).all c)) ∧ Took I fp w (l ++ upTo c (ents m (x.kid d) first)) w')
    (cs : Array Value) (first : Int) (l : List (Int × Int)) (w : World) (hr : RdVals w0 cs 11 (encN x)) (hw : Below w0.heap.size w0 w) (hI : I l w) (hok : okN (m + 1) x) (h0 : 0 ≤ first) (h1 : first + 8 ^ (m + 2) ≤ 1073741824) (hl : (l.length : Int) ≤ first) :
    Calls Try.prog 104 #[.agg cs, .int .i64 ((m : Int) + 2), .int .i64 first, .func (.func f) #[] caps] w fun e w' => e = .returned (.bool ((ents (m + 1) x first).all c)) ∧ Took I fp w (l ++ upTo c (ents (m + 1) x first)) w' := by
  obtain ⟨A, cap, rfl, hk⟩ := rdN_open hr
  have hcap := encK_cap hk
  have hn8 := Lib.hid hok.1.1
  have hn8a : 8 ≤ x.n := by rw [hok.1.1]; omega
  have hn8b : x.n ≤ 8 := by rw [hok.1.1]; omega
  have HY := Lib.hid hy
  have HW := Lib.hid hw
  have HI := Lib.hid hI
  have HIH := Lib.hid IH
  have HOK := Lib.hid hok
  have HK := Lib.hid hk
  have l1 : (1 : Int) < (m : Int) + 2 := by omega
  have hm1 : (m : Int) + 2 - 1 = (m : Int) + 1 := by omega
  have hm8 : (m : Int) ≤ 8 := by omega
  clear hr hk hy hw hI hok IH
  go_enter Try.func104, Try.ntmps104
  go_wp2_with fail
  go_loopw [11] (fun i wr => ∃ d : Nat, d ≤ 8 ∧ i = .int .i64 d ∧ (entsTo (m + 1) x first d).all c = true ∧ Took I fp w (l ++ entsTo (m + 1) x first d) wr ∧ wr.heap[w.heap.size]? = some (.cells (cellsN x (.slice A x.n cap)) 26 (0, 0)) ∧ ∀ b, fp wr b → b ≠ w.heap.size) (fun i _ => 8 - (intOf i).toNat)
  case atStart =>
    have hk := HY.out.keep l w _ HI.out (below_alloc w (.cells (cellsN x (.slice A x.n cap)) 26))
    refine ⟨0, by omega, rfl, rfl, ?_, heap_alloc_new w _, fun b hb e => ?_⟩
    · have := (Took.start (fp := fp) HI.out).below HY.out (below_alloc w (.cells (cellsN x (.slice A x.n cap)) 26))
      simpa [entsTo] using this
    · have := (HY.out.fpin _ _ _ HI.out (hk.2 b hb)).2
      omega
  case round =>
    obtain ⟨d, hd, rfl, hall, ht, hb, hfp⟩ := hrel
    by_cases hlt : d < 8
    · obtain ⟨g, b, s, rfl, hgl, hks, hvk, hck⟩ := encK_kid (i := d) HK.out (by omega)
      obtain ⟨A', cap2, rfl, -⟩ := hks
      have d0 : (0 : Int) ≤ (d : Int) := by omega
      have d8 : (d : Int) < 8 := by omega
      have c10 : wr.cell? ⟨w.heap.size, 10, none⟩ = some (.slice (some ⟨g, b, none⟩) x.n cap) := by rw [cell_of_row _ _ _ _ _ _ hb]; rfl
      have hgw := lt_of_heap hb
      have hw0 := ht.base HY.out rfl HI.out HW.out
      have HC := Lib.hid fun j v hj => below_keeps hw0 _ _ (hck j v hj)
      have HV := Lib.hid hvk
      have HW0 := Lib.hid hw0
      have HALL := Lib.hid hall
      have HT := Lib.hid ht
      have HB := Lib.hid hb
      have HF := Lib.hid hfp
      have hgr : g < wr.heap.size := by have := hw0.size; omega
      clear ht hb hfp hall hck hvk hw0
      have hdn : (d : Int) < (x.n : Int) := by omega
      obtain ⟨hs1, hs2, hbd⟩ := walk_arith m d first hm hlt h0 h1
      have HB1 := Lib.hid hbd
      have HLL : Hid (((l ++ entsTo (m + 1) x first d).length : Int) ≤ first + (d : Int) * 8 ^ (m + 1)) := by
        have h1 := entsTo_len (m + 1) x first d
        have h2 : ((entsTo (m + 1) x first d).length : Int) ≤ (d : Int) * 8 ^ (m + 1) := by exact_mod_cast h1
        unfold Hid
        rw [List.length_append]; push_cast; omega
      clear hbd
      cases ha : absentB (x.kid d)
      · have hokk : okN m (x.kid d) := by
          rcases (HOK.out.1.2.2.2.2 d hlt).1 with h | h
          · rw [h] at ha; cases ha
          · exact h
        have HOKK := Lib.hid hokk
        have he : entsTo (m + 1) x first (d + 1) = entsTo (m + 1) x first d ++ ents m (x.kid d) (first + (d : Int) * 8 ^ (m + 1)) := by rw [entsTo_succ, entD, if_neg (by rw [ha]; decide)]
        have HEE := Lib.hid he
        clear he hokk
        cases hc : (ents m (x.kid d) (first + (d : Int) * 8 ^ (m + 1))).all c
        all_goals
          go_wp2_with (first
            | ((with_reducible refine wpList_loadN (.tmp 26) ?_ ?_ (g) (b + d * 11) ?_ (x.kid d) (.slice A' (x.kid d).n cap2) ?_ ?_); (with_reducible rfl); rfl; rfl; (intro j v hj; exact below_keeps (by (repeat' (first | (with_reducible exact Below.refl _ _) | (with_reducible assumption) | (with_reducible refine below_plus ?_ ?_ _) | (with_reducible refine Below.alloc ?_ ?_ _) | (with_reducible refine Below.drew ?_) | (with_reducible refine below_drewN ?_ _) | (with_reducible refine Below.setCell ?_ ?_ _) | (first | omega | (simp only [World.size_alloc, size_plus, World.size_drew, World.size_setCell] <;> omega) | (simp <;> omega)) | omega | (simp; omega)))) _ _ (HC.out j v hj)))
            | ((with_reducible refine wpList_loadN (.tmp 34) ?_ ?_ (g) (b + d * 11) ?_ (x.kid d) (.slice A' (x.kid d).n cap2) ?_ ?_); (with_reducible rfl); rfl; rfl; (intro j v hj; exact below_keeps (by (repeat' (first | (with_reducible exact Below.refl _ _) | (with_reducible assumption) | (with_reducible refine below_plus ?_ ?_ _) | (with_reducible refine Below.alloc ?_ ?_ _) | (with_reducible refine Below.drew ?_) | (with_reducible refine below_drewN ?_ _) | (with_reducible refine Below.setCell ?_ ?_ _) | (first | omega | (simp only [World.size_alloc, size_plus, World.size_drew, World.size_setCell] <;> omega) | (simp <;> omega)) | omega | (simp; omega)))) _ _ (HC.out j v hj)))
            | (go_at_call 67; refine (p_absent _ (x.kid d) _ (HV.out.keep (below_keeps HW0.out))).mono ?_; rintro e w' ⟨rfl, hb⟩; (first | (obtain ⟨X, rfl⟩ := plus_again hb) | (obtain ⟨X, rfl⟩ := plus_of_below hb)); clear hb; rw [ha])
            | (go_at_call 104
               have hbX : Below wr.heap.size wr (wr.plus X) := below_plus (Below.refl _ _) (Nat.le_refl _) X
               have HTX := Lib.hid (HT.out.below HY.out hbX)
               have HFX := Lib.hid (fun b hb' => HF.out b ((HY.out.keep _ _ _ HT.out.inv hbX).2 b hb'))
               have HBX : (wr.plus X).heap[w.heap.size]? = some (.cells (cellsN x (.slice (some ⟨g, b, none⟩) x.n cap)) 26 (0, 0)) := by rw [heap_plus _ _ _ hgw]; exact HB.out
               refine (HIH.out d _ (first + (d : Int) * 8 ^ (m + 1)) _ _ hlt HV.out (HW0.out.trans (hbX.mono HW0.out.size)) HTX.out.inv HOKK.out HB1.out.1 HB1.out.2 HLL.out).mono ?_
               rintro e W ⟨rfl, hk2⟩
               rw [hc]))
          first
            | (have hT2 : Took I fp w (l ++ entsTo (m + 1) x first (d + 1)) W := by
                 rw [upTo_self hc, List.append_assoc, ← HEE.out] at hk2; exact HTX.out.then_ hk2
               have hbl : W.heap[w.heap.size]? = some (.cells (cellsN x (.slice (some ⟨g, b, none⟩) x.n cap)) 26 (0, 0)) := (hk2.mod.block _ (by rw [size_plus]; omega) (fun e => HFX.out _ e rfl)).trans HBX
               exact ⟨⟨d + 1, by omega, by go_num, by rw [HEE.out, List.all_append, HALL.out, hc]; rfl, hT2, hbl, fun b hb' => (hk2.fps b hb').elim (HFX.out b) (fun h => by rw [size_plus] at h; omega)⟩, by simp [intOf]; omega⟩)
            | (go_ret
               obtain ⟨r, hr⟩ := ents_split (m := m + 1) (x := x) (first := first) (k := d + 1) (by omega)
               have hf1 : (entsTo (m + 1) x first (d + 1)).all c = false := by rw [HEE.out, List.all_append, HALL.out, hc]; rfl
               rw [hr, upTo_not hf1, HEE.out, upTo_all HALL.out, ← HEE.out, List.all_append, hf1, ← List.append_assoc]
               exact ⟨rfl, HTX.out.then_ hk2⟩)
      · go_wp2_with (first
          | ((with_reducible refine wpList_loadN (.tmp 26) ?_ ?_ (g) (b + d * 11) ?_ (x.kid d) (.slice A' (x.kid d).n cap2) ?_ ?_); (with_reducible rfl); rfl; rfl; (intro j v hj; exact below_keeps (by (repeat' (first | (with_reducible exact Below.refl _ _) | (with_reducible assumption) | (with_reducible refine below_plus ?_ ?_ _) | (with_reducible refine Below.alloc ?_ ?_ _) | (with_reducible refine Below.drew ?_) | (with_reducible refine below_drewN ?_ _) | (with_reducible refine Below.setCell ?_ ?_ _) | (first | omega | (simp only [World.size_alloc, size_plus, World.size_drew, World.size_setCell] <;> omega) | (simp <;> omega)) | omega | (simp; omega)))) _ _ (HC.out j v hj)))
          | (go_at_call 67; refine (p_absent _ (x.kid d) _ (HV.out.keep (below_keeps HW0.out))).mono ?_; rintro e w' ⟨rfl, hb⟩; (first | (obtain ⟨X, rfl⟩ := plus_again hb) | (obtain ⟨X, rfl⟩ := plus_of_below hb)); clear hb; rw [ha]))
        have hbX : Below wr.heap.size wr (wr.plus X) := below_plus (Below.refl _ _) (Nat.le_refl _) X
        have he : entsTo (m + 1) x first (d + 1) = entsTo (m + 1) x first d := by rw [entsTo_succ, entD, if_pos ha, List.append_nil]
        exact ⟨⟨d + 1, by omega, by go_num, by rw [he]; exact HALL.out, by rw [he]; exact HT.out.below HY.out hbX, by rw [heap_plus _ _ _ hgw]; exact HB.out, fun b hb' => HF.out b ((HY.out.keep _ _ _ HT.out.inv hbX).2 b hb')⟩, by simp [intOf]; omega⟩
    · obtain rfl : d = 8 := by omega
      go_wp2_with fail
      go_ret
      rw [entsTo_8] at hall ht
      rw [hall, upTo_self hall]
      exact ⟨rfl, ht⟩

theorem p_walk {f : FuncId} {caps : Array Value} {c : Int × Int → Bool} {I : List (Int × Int) → World → Prop} {fp : World → Nat → Prop} (w0 : World) (hy : Yld2 f caps w0.heap.size c I fp) : ∀ (m : Nat), m ≤ 9 →
    ∀ (x : RN) (cs : Array Value) (first : Int) (l : List (Int × Int)) (w : World), RdVals w0 cs 11 (encN x) → Below w0.heap.size w0 w → I l w → okN m x → 0 ≤ first → first + 8 ^ (m + 1) ≤ 1073741824 → (l.length : Int) ≤ first →
      Calls Try.prog 104 #[.agg cs, .int .i64 ((m : Int) + 1), .int .i64 first, .func (.func f) #[] caps] w fun e w' => e = .returned (.bool ((ents m x first).all c)) ∧ Took I fp w (l ++ upTo c (ents m x first)) w'
  | 0, _ => fun x cs first l w hr hw hI hok h0 h1 hl => p_walk_leaf w0 hy x cs first l w hr hw hI hok h0 h1 hl
  | m + 1, hm => fun x cs first l w hr hw hI hok h0 h1 hl => by
    have := p_walk_inner w0 hy m (by omega) x (fun d cs first l w _ hr hw hI hok h0 h1 hl => p_walk w0 hy m (by omega) (x.kid d) cs first l w hr hw hI hok h0 h1 hl) cs first l w hr hw hI hok h0 h1 hl
    rw [show ((m + 1 : Nat) : Int) + 1 = (m : Int) + 2 by omega]
    exact this
end Go.Proofs.Ytcicfijpfhbcaaa
