/-
  radix.walk.
-/
/-
  radix.walk: an inner node; the whole.
-/
/-
  radix.each$1, radix.each.
-/
/-
  radix.Next, radix.Count.
-/
import Derived.Test.YtcicfijpfhbcaaaPo
import Derived.StillTailTactics
namespace Go.Proofs.Ytcicfijpfhbcaaa
set_option linter.unusedSimpArgs false
set_option linter.unusedVariables false
set_option linter.unusedSectionVars false
open Go.RowKit

/-- A tag of an entry as a number. -/
def tagI (t : Int) (d : Nat) : Int := if bitB t d then 1 else 0
set_option maxRecDepth 100000 in
theorem tag_tab : ∀ t : Fin 256, ∀ d : Fin 8, bits .and .i64 ((t.1 : Int) / 2 ^ d.1) 1 = tagI (t.1 : Int) d.1 := by decide +kernel
theorem tag_bits {t : Int} (h : rng t) {d : Nat} (hd : d < 8) : bits .and .i64 (t / 2 ^ d) 1 = tagI t d := by
  obtain ⟨k, rfl⟩ := rng_fin h
  exact tag_tab k ⟨d, hd⟩
theorem tagI_bound (t : Int) (d : Nat) : 0 ≤ tagI t d ∧ tagI t d ≤ 1 := by unfold tagI; split <;> omega
/-- Entry d of a leaf, if there is one: its index and its tags. -/
def entL (x : RN) (first : Int) (d : Nat) : List (Int × Int) := if x.v d = 0 then [] else [(first + d, tagI x.t0 d + tagI x.t1 d * 2)]
/-- The entries below a node of level m + 1, in order. -/
def ents : Nat → RN → Int → List (Int × Int)
  | 0, x, first => (List.range 8).flatMap (entL x first)
  | m + 1, x, first => (List.range 8).flatMap fun d => if absentB (x.kid d) then [] else ents m (x.kid d) (first + d * 8 ^ (m + 1))
/-- What child number d gives. -/
def entD : Nat → RN → Int → Nat → List (Int × Int)
  | 0, x, first, d => entL x first d
  | m + 1, x, first, d => if absentB (x.kid d) then [] else ents m (x.kid d) (first + d * 8 ^ (m + 1))
def entsTo (m : Nat) (x : RN) (first : Int) (k : Nat) : List (Int × Int) := (List.range k).flatMap (entD m x first)
theorem entsTo_8 (m : Nat) (x : RN) (first : Int) : entsTo m x first 8 = ents m x first := by cases m <;> rfl
theorem entsTo_succ (m : Nat) (x : RN) (first : Int) (k : Nat) : entsTo m x first (k + 1) = entsTo m x first k ++ entD m x first k := by simp [entsTo, List.range_succ]

theorem ents_split {m : Nat} {x : RN} {first : Int} {k : Nat} (hk : k ≤ 8) : ∃ r, ents m x first = entsTo m x first k ++ r := by
  refine ⟨((List.range 8).drop k).flatMap (entD m x first), ?_⟩
  have e : List.range 8 = List.range k ++ (List.range 8).drop k := by
    have := List.take_append_drop k (List.range 8)
    rw [List.take_range, Nat.min_eq_left hk] at this
    exact this.symm
  rw [← entsTo_8]
  unfold entsTo
  conv => lhs; rw [e]
  rw [List.flatMap_append]
/-- As far as c lets it go, with the one that stops it. -/
def upTo {α : Type} (c : α → Bool) : List α → List α
  | [] => []
  | a :: r => if c a then a :: upTo c r else [a]
theorem upTo_all {α : Type} {c : α → Bool} : ∀ {a : List α}, a.all c = true → ∀ b, upTo c (a ++ b) = a ++ upTo c b
  | [], _, _ => rfl
  | x :: a, h, b => by
    simp only [List.all_cons, Bool.and_eq_true] at h
    rw [List.cons_append, upTo, if_pos h.1, upTo_all h.2, List.cons_append]
theorem upTo_self {α : Type} {c : α → Bool} {a : List α} (h : a.all c = true) : upTo c a = a := by
  have := upTo_all h []
  simpa [upTo] using this
theorem upTo_not {α : Type} {c : α → Bool} : ∀ {a : List α}, a.all c = false → ∀ b, upTo c (a ++ b) = upTo c a
  | [], h, _ => by simp at h
  | x :: a, h, b => by
    rw [List.cons_append, upTo, upTo]
    cases hx : c x
    · rfl
    · rw [List.all_cons, hx, Bool.true_and] at h
      simp only [if_true]
      rw [upTo_not h]

/-- Function f with these captured values takes pairs one after the other: 'I l' holds when it has taken l; 'fp' are the blocks that it writes. -/
structure Yld2 (f : FuncId) (caps : Array Value) (B : Nat) (c : Int × Int → Bool) (I : List (Int × Int) → World → Prop) (fp : World → Nat → Prop) : Prop where
  enter : ∀ (args : Array Value) (w : World), (callFunc f args).run Try.prog w = .ok (.enter f args) w
  keep : ∀ (l : List (Int × Int)) (w w' : World), I l w → Below w.heap.size w w' → I l w' ∧ ∀ b, fp w' b → fp w b
  fpin : ∀ (l : List (Int × Int)) (w : World) (b : Nat), I l w → fp w b → B ≤ b ∧ b < w.heap.size
  call : ∀ (l : List (Int × Int)) (w : World) (i t : Int), 0 ≤ i → i < 1073741824 → 0 ≤ t → t ≤ 3 → I l w → (l.length : Int) ≤ i →
    Calls Try.prog f (#[.int .i64 i, .int .i64 t] ++ caps) w fun e w' => e = .returned (.bool (c (i, t))) ∧ I (l ++ [(i, t)]) w' ∧ Mod (fp w) w w' ∧ ∀ b, fp w' b → fp w b ∨ w.heap.size ≤ b

/-- What holds behind a stretch of a walk that took 'l' and then 'r'. -/
structure Took (I : List (Int × Int) → World → Prop) (fp : World → Nat → Prop) (w : World) (l : List (Int × Int)) (w' : World) : Prop where
  inv : I l w'
  mod : Mod (fp w) w w'
  fps : ∀ b, fp w' b → fp w b ∨ w.heap.size ≤ b

section
variable {f : FuncId} {caps : Array Value} {B : Nat} {c : Int × Int → Bool} {I : List (Int × Int) → World → Prop} {fp : World → Nat → Prop}
theorem Took.start {w : World} {l : List (Int × Int)} (h : I l w) : Took I fp w l w := ⟨h, Mod.refl _ _, fun _ hb => .inl hb⟩
theorem Took.below (hy : Yld2 f caps B c I fp) {w w' w'' : World} {l : List (Int × Int)} (h : Took I fp w l w') (hb : Below w'.heap.size w' w'') : Took I fp w l w'' :=
  ⟨(hy.keep _ _ _ h.inv hb).1, h.mod.below_ hb, fun b hb' => h.fps b ((hy.keep _ _ _ h.inv hb).2 b hb')⟩
theorem Took.then_ {w w' w'' : World} {l l' : List (Int × Int)} (h : Took I fp w l w') (k : Took I fp w' l' w'') : Took I fp w l' w'' :=
  ⟨k.inv, h.mod.trans k.mod (fun i hi hf => (h.fps i hf).elim id fun h => absurd hi (by omega)), fun b hb => (k.fps b hb).elim (h.fps b) fun hb => .inr (Nat.le_trans h.mod.size hb)⟩
/-- Behind an allocation at the head. -/
theorem Took.head (hy : Yld2 f caps B c I fp) {w w1 w' : World} {l0 l : List (Int × Int)} (h0 : I l0 w) (hb : Below w.heap.size w w1) (k : Took I fp w1 l w') : Took I fp w l w' :=
  ((Took.start h0).below hy hb).then_ k
/-- A block that is not written stands. -/
theorem Took.block {w w' : World} {l : List (Int × Int)} (h : Took I fp w l w') {b : Nat} (hb : b < w.heap.size) (hn : ¬ fp w b) : w'.heap[b]? = w.heap[b]? := h.mod.block b hb hn
theorem Took.base (hy : Yld2 f caps B c I fp) {w0 w w' : World} {l0 l : List (Int × Int)} (hB : B = w0.heap.size) (h0 : I l0 w) (hw : Below w0.heap.size w0 w) (h : Took I fp w l w') : Below w0.heap.size w0 w' :=
  hw.trans (h.mod.below (B := w0.heap.size) hw.size fun k hk => by have := (hy.fpin _ _ _ h0 hk).1; omega)
end

theorem ents_in : ∀ (m : Nat) (x : RN) (first : Int), ∀ p ∈ ents m x first, first ≤ p.1 ∧ p.1 < first + 8 ^ (m + 1) ∧ 0 ≤ p.2 ∧ p.2 ≤ 3
  | 0, x, first, p, hp => by
    obtain ⟨d, hd, hp⟩ := List.mem_flatMap.1 hp
    have hd8 := List.mem_range.1 hd
    unfold entL at hp
    split at hp
    · cases hp
    · rw [List.mem_singleton] at hp
      subst hp
      have h0 := tagI_bound x.t0 d
      have h1 := tagI_bound x.t1 d
      have e : ((8 : Int) ^ (0 + 1)) = 8 := rfl
      rw [e]
      simp only
      omega
  | m + 1, x, first, p, hp => by
    obtain ⟨d, hd, hp⟩ := List.mem_flatMap.1 hp
    have hd8 := List.mem_range.1 hd
    split at hp
    · cases hp
    · have := ents_in m _ _ p hp
      have e : ((8 : Int) ^ (m + 1 + 1)) = 8 ^ (m + 1) * 8 := by rw [Int.pow_succ]
      have hpos : (0 : Int) < 8 ^ (m + 1) := by exact_mod_cast pow8_pos (m + 1)
      rw [e]
      have hd7 : (d : Int) ≤ 7 := by omega
      have : (d : Int) * 8 ^ (m + 1) ≤ 7 * 8 ^ (m + 1) := Int.mul_le_mul_of_nonneg_right hd7 (by omega)
      have : 0 ≤ (d : Int) * 8 ^ (m + 1) := Int.mul_nonneg (by omega) (by omega)
      omega

theorem ents_len : ∀ (m : Nat) (x : RN) (first : Int), (ents m x first).length ≤ 8 ^ (m + 1)
  | 0, x, first => by
    have h : ∀ k, ((List.range k).flatMap (entL x first)).length ≤ k := fun k => by
      induction k with
      | zero => simp
      | succ k ih =>
        rw [List.range_succ, List.flatMap_append, List.length_append]
        have : ((List.flatMap (entL x first) [k])).length ≤ 1 := by
          simp only [List.flatMap_cons, List.flatMap_nil, List.append_nil]
          unfold entL; split <;> simp
        omega
    exact h 8
  | m + 1, x, first => by
    have h : ∀ k, ((List.range k).flatMap (entD (m + 1) x first)).length ≤ k * 8 ^ (m + 1) := fun k => by
      induction k with
      | zero => simp
      | succ k ih =>
        rw [List.range_succ, List.flatMap_append, List.length_append]
        have : ((List.flatMap (entD (m + 1) x first) [k])).length ≤ 8 ^ (m + 1) := by
          simp only [List.flatMap_cons, List.flatMap_nil, List.append_nil]
          show (if absentB (x.kid k) then [] else ents m (x.kid k) (first + k * 8 ^ (m + 1))).length ≤ 8 ^ (m + 1)
          by_cases ha : absentB (x.kid k) = true
          · rw [if_pos ha]; exact Nat.zero_le _
          · rw [if_neg ha]; exact ents_len m _ _
        have e : (k + 1) * 8 ^ (m + 1) = k * 8 ^ (m + 1) + 8 ^ (m + 1) := Nat.succ_mul ..
        omega
    have h8 := h 8
    have e : (8 : Nat) ^ (m + 1 + 1) = 8 * 8 ^ (m + 1) := by rw [Nat.pow_succ, Nat.mul_comm]
    rw [e]
    exact h8
theorem entsTo_len (m : Nat) (x : RN) (first : Int) : ∀ k, (entsTo m x first k).length ≤ k * 8 ^ m
  | 0 => by simp [entsTo]
  | k + 1 => by
    rw [entsTo_succ, List.length_append, Nat.succ_mul]
    have ih := entsTo_len m x first k
    have h1 : (entD m x first k).length ≤ 8 ^ m := by
      match m with
      | 0 => show (entL x first k).length ≤ 1; unfold entL; split <;> simp
      | m + 1 =>
        show (if absentB (x.kid k) then [] else ents m (x.kid k) (first + k * 8 ^ (m + 1))).length ≤ _
        split
        · exact Nat.zero_le _
        · exact ents_len _ _ _
    omega

set_option maxRecDepth 100000 in
set_option maxHeartbeats 1000000 in
theorem p_walk_leaf {f : FuncId} {caps : Array Value} {c : Int × Int → Bool} {I : List (Int × Int) → World → Prop} {fp : World → Nat → Prop} (w0 : World) (hy : Yld2 f caps w0.heap.size c I fp)
    (x : RN) (cs : Array Value) (first : Int) (l : List (Int × Int)) (w : World) (hr : RdVals w0 cs 11 (encN x)) (hw : Below w0.heap.size w0 w) (hI : I l w) (hok : okN 0 x) (h0 : 0 ≤ first) (h1 : first + 8 ≤ 1073741824) (hl : (l.length : Int) ≤ first) :
    Calls Try.prog 104 #[.agg cs, .int .i64 1, .int .i64 first, .func (.func f) #[] caps] w fun e w' => e = .returned (.bool ((ents 0 x first).all c)) ∧ Took I fp w (l ++ upTo c (ents 0 x first)) w' := by
  obtain ⟨A, cap, rfl, hk⟩ := rdN_open hr
  have HE := hy.enter
  have HY := Lib.hid hy
  have HW := Lib.hid hw
  have HI := Lib.hid hI
  have hv : ∀ j, j < 8 → (cellsN x (.slice A x.n cap))[j]? = some (.int .i64 (x.v j)) := cellsN_v x _
  have HV := Lib.hid hv
  have HOK := Lib.hid hok
  clear hr hk hy hw hI hv hok
  go_enter Try.func104, Try.ntmps104
  go_wp2_with fail
  go_loopw [11] (fun i wr => ∃ d : Nat, d ≤ 8 ∧ i = .int .i64 d ∧ (entsTo 0 x first d).all c = true ∧ Took I fp w (l ++ entsTo 0 x first d) wr ∧ wr.heap[w.heap.size]? = some (.cells (cellsN x (.slice A x.n cap)) 26 (0, 0)) ∧ ∀ b, fp wr b → b ≠ w.heap.size) (fun i _ => 8 - (intOf i).toNat)
  case atStart =>
    have hk := HY.out.keep l w _ HI.out (below_alloc w (.cells (cellsN x (.slice A x.n cap)) 26))
    refine ⟨0, by omega, rfl, rfl, ?_, heap_alloc_new w _, fun b hb e => ?_⟩
    · have := (Took.start (fp := fp) HI.out).below HY.out (below_alloc w (.cells (cellsN x (.slice A x.n cap)) 26))
      simpa [entsTo] using this
    · have := (HY.out.fpin _ _ _ HI.out (hk.2 b hb)).2
      omega
  case round =>
    obtain ⟨d, hd, rfl, hall, ht, hb, hfp⟩ := hrel
    by_cases hlt : d < 8
    · have d0 : (0 : Int) ≤ (d : Int) := by omega
      have d8 : (d : Int) < 8 := by omega
      have cd : wr.cell? ⟨w.heap.size, d, none⟩ = some (.int .i64 (x.v d)) := by rw [cell_of_row _ _ _ _ _ _ hb]; exact HV.out d hlt
      have c8 : wr.cell? ⟨w.heap.size, 8, none⟩ = some (.int .i64 x.t0) := by rw [cell_of_row _ _ _ _ _ _ hb]; rfl
      have c9 : wr.cell? ⟨w.heap.size, 9, none⟩ = some (.int .i64 x.t1) := by rw [cell_of_row _ _ _ _ _ _ hb]; rfl
      have c9' : wr.cell? ⟨w.heap.size, 8 + 1, none⟩ = some (.int .i64 x.t1) := c9
      have htd := ht.below HY.out ((Below.refl wr.heap.size wr).drew)
      have hfd : ∀ b, fp wr.drew b → b ≠ w.heap.size := fun b hb' => hfp b ((HY.out.keep _ _ _ ht.inv ((Below.refl wr.heap.size wr).drew)).2 b hb')
      have hbd : wr.drew.heap[w.heap.size]? = some (.cells (cellsN x (.slice A x.n cap)) 26 (0, 0)) := hb
      have HTD := Lib.hid htd
      have HFD := Lib.hid hfd
      have HBD := Lib.hid hbd
      have HALL := Lib.hid hall
      have HT := Lib.hid ht
      have HB := Lib.hid hb
      have HF := Lib.hid hfp
      have hgw := lt_of_heap hb
      clear ht hb hfp htd hfd hbd hall
      by_cases hvz : x.v d = 0
      · have hv : (x.v d != 0) = false := by simp [hvz]
        go_wp2_with fail
        (refine wp_region_quiet_plus (by kernel_rfl) (by kernel_rfl) ?_; (repeat (go_big_quiet_step (fail))); refine wpQuiet_nil ?_; intro _)
        rename_i Y
        go_wp2_with fail
        have hbY : Below wr.heap.size wr (wr.plus Y) := below_plus (Below.refl _ _) (Nat.le_refl _) Y
        have he : entsTo 0 x first (d + 1) = entsTo 0 x first d := by rw [entsTo_succ, entD, entL, if_pos hvz, List.append_nil]
        exact ⟨⟨d + 1, by omega, by go_num, by rw [he]; exact HALL.out, by rw [he]; exact HT.out.below HY.out hbY, by rw [heap_plus _ _ _ hgw]; exact HB.out, fun b hb' => HF.out b ((HY.out.keep _ _ _ HT.out.inv hbY).2 b hb')⟩, by simp [intOf]; omega⟩
      · have hv : (x.v d != 0) = true := by simp [hvz]
        have b0 := tag_bits HOK.out.1.2.1 hlt
        have b1 := tag_bits HOK.out.1.2.2.1 hlt
        obtain ⟨t00, t01⟩ := tagI_bound x.t0 d
        obtain ⟨t10, t11⟩ := tagI_bound x.t1 d
        have HC := Lib.hid (HY.out.call _ wr.drew (first + d) (tagI x.t0 d + tagI x.t1 d * 2) (by omega) (by omega) (by omega) (by omega) HTD.out.inv (by
          have := entsTo_len 0 x first d
          rw [List.length_append]; push_cast; omega))
        have he : entsTo 0 x first (d + 1) = entsTo 0 x first d ++ [(first + d, tagI x.t0 d + tagI x.t1 d * 2)] := by rw [entsTo_succ, entD, entL, if_neg hvz]
        have HEE := Lib.hid he
        clear he
        cases hc : c (first + d, tagI x.t0 d + tagI x.t1 d * 2)
        all_goals
          go_wp2_with fail
          (refine wp_region_still_tail 22 (by kernel_rfl) (by kernel_rfl) ?_; simp only [World.drew_eq, plus_drew, List.take_succ_cons, List.take_zero, List.drop_succ_cons, List.drop_zero]; (repeat still_step); refine wpStill_nil ?_)
          go_wp2_with ((with_reducible refine HC.out.mono ?_); rintro e W ⟨rfl, hI', hm, hf⟩; rw [hc])
          have hT2 : Took I fp w (l ++ entsTo 0 x first (d + 1)) W := by
            rw [HEE.out, ← List.append_assoc]; exact HTD.out.then_ ⟨hI', hm, hf⟩
          first
            | (have hbl : W.heap[w.heap.size]? = some (.cells (cellsN x (.slice A x.n cap)) 26 (0, 0)) := (hm.block _ hgw (fun e => HFD.out _ e rfl)).trans HBD.out
               exact ⟨⟨d + 1, by omega, by go_num, by rw [HEE.out, List.all_append, HALL.out]; simp [hc], hT2, hbl, fun b hb' => (hf b hb').elim (HFD.out b) (fun h => by have : wr.heap.size ≤ b := h; omega)⟩, by simp [intOf]; omega⟩)
            | (go_ret
               obtain ⟨r, hr⟩ := ents_split (m := 0) (x := x) (first := first) (k := d + 1) (by omega)
               have hf1 : (entsTo 0 x first (d + 1)).all c = false := by rw [HEE.out, List.all_append]; simp [hc]
               have hu : upTo c (entsTo 0 x first (d + 1)) = entsTo 0 x first (d + 1) := by rw [HEE.out, upTo_all HALL.out]; simp [upTo, hc]
               rw [hr, upTo_not hf1, hu, List.all_append, hf1]
               exact ⟨rfl, hT2⟩)
    · obtain rfl : d = 8 := by omega
      go_wp2_with fail
      go_ret
      rw [entsTo_8] at hall ht
      rw [hall, upTo_self hall]
      exact ⟨rfl, ht⟩
end Go.Proofs.Ytcicfijpfhbcaaa
namespace Go.Proofs.Ytcicfijpfhbcaaa
set_option linter.unusedSimpArgs false
set_option linter.unusedVariables false
set_option linter.unusedSectionVars false
open Go.RowKit

theorem walk_arith (m d : Nat) (first : Int) (hm : m ≤ 8) (hlt : d < 8) (h0 : 0 ≤ first) (h1 : first + 8 ^ (m + 2) ≤ 1073741824) :
    wrap64 ((d : Int) * 2 ^ (3 * (m + 1))) = (d : Int) * 8 ^ (m + 1) ∧ wrap64 (first + (d : Int) * 8 ^ (m + 1)) = first + (d : Int) * 8 ^ (m + 1) ∧
    0 ≤ first + (d : Int) * 8 ^ (m + 1) ∧ first + (d : Int) * 8 ^ (m + 1) + 8 ^ (m + 1) ≤ 1073741824 := by
  have hp8 : (8 : Int) ^ (m + 1) ≤ 134217728 := by
    have : (8 : Nat) ^ (m + 1) ≤ 8 ^ 9 := pow8_mono (by omega)
    have h9 : (8 : Nat) ^ 9 = 134217728 := by decide
    rw [h9] at this
    have h2 : ((8 ^ (m + 1) : Nat) : Int) ≤ 134217728 := Int.ofNat_le.2 this
    rw [Int.natCast_pow] at h2
    exact h2
  have hp0 : (0 : Int) < 8 ^ (m + 1) := by exact_mod_cast pow8_pos (m + 1)
  have hp2 : (8 : Int) ^ (m + 2) = 8 ^ (m + 1) * 8 := by rw [Int.pow_succ]
  have e : (2 : Int) ^ (3 * (m + 1)) = 8 ^ (m + 1) := by exact_mod_cast pow2_8 (m + 1)
  rw [e]
  rw [hp2] at h1
  generalize (8 : Int) ^ (m + 1) = P at *
  have hdp : (d : Int) * P ≤ 7 * P := Int.mul_le_mul_of_nonneg_right (by omega) (by omega)
  have hdp0 : 0 ≤ (d : Int) * P := Int.mul_nonneg (by omega) (by omega)
  generalize (d : Int) * P = R at *
  unfold wrap64
  omega

set_option maxRecDepth 100000 in
set_option maxHeartbeats 1000000 in
theorem p_walk_inner {f : FuncId} {caps : Array Value} {c : Int × Int → Bool} {I : List (Int × Int) → World → Prop} {fp : World → Nat → Prop} (w0 : World) (hy : Yld2 f caps w0.heap.size c I fp) (m : Nat) (hm : m ≤ 8)
    (x : RN) (IH : ∀ (d : Nat) (cs : Array Value) (first : Int) (l : List (Int × Int)) (w : World), d < 8 → RdVals w0 cs 11 (encN (x.kid d)) → Below w0.heap.size w0 w → I l w → okN m (x.kid d) → 0 ≤ first → first + 8 ^ (m + 1) ≤ 1073741824 → (l.length : Int) ≤ first →
      Calls Try.prog 104 #[.agg cs, .int .i64 ((m : Int) + 1), .int .i64 first, .func (.func f) #[] caps] w fun e w' => e = .returned (.bool ((ents m (x.kid d) first).all c)) ∧ Took I fp w (l ++ upTo c (ents m (x.kid d) first)) w')
    (cs : Array Value) (first : Int) (l : List (Int × Int)) (w : World) (hr : RdVals w0 cs 11 (encN x)) (hw : Below w0.heap.size w0 w) (hI : I l w) (hok : okN (m + 1) x) (h0 : 0 ≤ first) (h1 : first + 8 ^ (m + 2) ≤ 1073741824) (hl : (l.length : Int) ≤ first) :
    Calls Try.prog 104 #[.agg cs, .int .i64 ((m : Int) + 2), .int .i64 first, .func (.func f) #[] caps] w fun e w' => e = .returned (.bool ((ents (m + 1) x first).all c)) ∧ Took I fp w (l ++ upTo c (ents (m + 1) x first)) w' := by
  obtain ⟨A, cap, rfl, hk⟩ := rdN_open hr
  have hcap := encK_cap hk
  have hn8 := Lib.hid hok.1.1
  have hn8a : 8 ≤ x.n := by rw [hok.1.1]; omega
  have hn8b : x.n ≤ 8 := by rw [hok.1.1]; omega
  have HY := Lib.hid hy
  have HW := Lib.hid hw
  have HI := Lib.hid hI
  have HIH := Lib.hid IH
  have HOK := Lib.hid hok
  have HK := Lib.hid hk
  have l1 : (1 : Int) < (m : Int) + 2 := by omega
  have hm1 : (m : Int) + 2 - 1 = (m : Int) + 1 := by omega
  have hm8 : (m : Int) ≤ 8 := by omega
  clear hr hk hy hw hI hok IH
  go_enter Try.func104, Try.ntmps104
  go_wp2_with fail
  go_loopw [11] (fun i wr => ∃ d : Nat, d ≤ 8 ∧ i = .int .i64 d ∧ (entsTo (m + 1) x first d).all c = true ∧ Took I fp w (l ++ entsTo (m + 1) x first d) wr ∧ wr.heap[w.heap.size]? = some (.cells (cellsN x (.slice A x.n cap)) 26 (0, 0)) ∧ ∀ b, fp wr b → b ≠ w.heap.size) (fun i _ => 8 - (intOf i).toNat)
  case atStart =>
    have hk := HY.out.keep l w _ HI.out (below_alloc w (.cells (cellsN x (.slice A x.n cap)) 26))
    refine ⟨0, by omega, rfl, rfl, ?_, heap_alloc_new w _, fun b hb e => ?_⟩
    · have := (Took.start (fp := fp) HI.out).below HY.out (below_alloc w (.cells (cellsN x (.slice A x.n cap)) 26))
      simpa [entsTo] using this
    · have := (HY.out.fpin _ _ _ HI.out (hk.2 b hb)).2
      omega
  case round =>
    obtain ⟨d, hd, rfl, hall, ht, hb, hfp⟩ := hrel
    by_cases hlt : d < 8
    · obtain ⟨g, b, s, rfl, hgl, hks, hvk, hck⟩ := encK_kid (i := d) HK.out (by omega)
      obtain ⟨A', cap2, rfl, -⟩ := hks
      have d0 : (0 : Int) ≤ (d : Int) := by omega
      have d8 : (d : Int) < 8 := by omega
      have c10 : wr.cell? ⟨w.heap.size, 10, none⟩ = some (.slice (some ⟨g, b, none⟩) x.n cap) := by rw [cell_of_row _ _ _ _ _ _ hb]; rfl
      have hgw := lt_of_heap hb
      have hw0 := ht.base HY.out rfl HI.out HW.out
      have HC := Lib.hid fun j v hj => below_keeps hw0 _ _ (hck j v hj)
      have HV := Lib.hid hvk
      have HW0 := Lib.hid hw0
      have HALL := Lib.hid hall
      have HT := Lib.hid ht
      have HB := Lib.hid hb
      have HF := Lib.hid hfp
      have hgr : g < wr.heap.size := by have := hw0.size; omega
      clear ht hb hfp hall hck hvk hw0
      have hdn : (d : Int) < (x.n : Int) := by omega
      obtain ⟨hs1, hs2, hbd⟩ := walk_arith m d first hm hlt h0 h1
      have HB1 := Lib.hid hbd
      have HLL : Hid (((l ++ entsTo (m + 1) x first d).length : Int) ≤ first + (d : Int) * 8 ^ (m + 1)) := by
        have h1 := entsTo_len (m + 1) x first d
        have h2 : ((entsTo (m + 1) x first d).length : Int) ≤ (d : Int) * 8 ^ (m + 1) := by exact_mod_cast h1
        unfold Hid
        rw [List.length_append]; push_cast; omega
      clear hbd
      cases ha : absentB (x.kid d)
      · have hokk : okN m (x.kid d) := by
          rcases (HOK.out.1.2.2.2.2 d hlt).1 with h | h
          · rw [h] at ha; cases ha
          · exact h
        have HOKK := Lib.hid hokk
        have he : entsTo (m + 1) x first (d + 1) = entsTo (m + 1) x first d ++ ents m (x.kid d) (first + (d : Int) * 8 ^ (m + 1)) := by rw [entsTo_succ, entD, if_neg (by rw [ha]; decide)]
        have HEE := Lib.hid he
        clear he hokk
        cases hc : (ents m (x.kid d) (first + (d : Int) * 8 ^ (m + 1))).all c
        all_goals
          go_wp2_with (first
            | ((with_reducible refine wpList_loadN (.tmp 26) ?_ ?_ (g) (b + d * 11) ?_ (x.kid d) (.slice A' (x.kid d).n cap2) ?_ ?_); (with_reducible rfl); rfl; rfl; (intro j v hj; exact below_keeps (by (repeat' (first | (with_reducible exact Below.refl _ _) | (with_reducible assumption) | (with_reducible refine below_plus ?_ ?_ _) | (with_reducible refine Below.alloc ?_ ?_ _) | (with_reducible refine Below.drew ?_) | (with_reducible refine below_drewN ?_ _) | (with_reducible refine Below.setCell ?_ ?_ _) | (first | omega | (simp only [World.size_alloc, size_plus, World.size_drew, World.size_setCell] <;> omega) | (simp <;> omega)) | omega | (simp; omega)))) _ _ (HC.out j v hj)))
            | ((with_reducible refine wpList_loadN (.tmp 34) ?_ ?_ (g) (b + d * 11) ?_ (x.kid d) (.slice A' (x.kid d).n cap2) ?_ ?_); (with_reducible rfl); rfl; rfl; (intro j v hj; exact below_keeps (by (repeat' (first | (with_reducible exact Below.refl _ _) | (with_reducible assumption) | (with_reducible refine below_plus ?_ ?_ _) | (with_reducible refine Below.alloc ?_ ?_ _) | (with_reducible refine Below.drew ?_) | (with_reducible refine below_drewN ?_ _) | (with_reducible refine Below.setCell ?_ ?_ _) | (first | omega | (simp only [World.size_alloc, size_plus, World.size_drew, World.size_setCell] <;> omega) | (simp <;> omega)) | omega | (simp; omega)))) _ _ (HC.out j v hj)))
            | (go_at_call 67; refine (p_absent _ (x.kid d) _ (HV.out.keep (below_keeps HW0.out))).mono ?_; rintro e w' ⟨rfl, hb⟩; (first | (obtain ⟨X, rfl⟩ := plus_again hb) | (obtain ⟨X, rfl⟩ := plus_of_below hb)); clear hb; rw [ha])
            | (go_at_call 104
               have hbX : Below wr.heap.size wr (wr.plus X) := below_plus (Below.refl _ _) (Nat.le_refl _) X
               have HTX := Lib.hid (HT.out.below HY.out hbX)
               have HFX := Lib.hid (fun b hb' => HF.out b ((HY.out.keep _ _ _ HT.out.inv hbX).2 b hb'))
               have HBX : (wr.plus X).heap[w.heap.size]? = some (.cells (cellsN x (.slice (some ⟨g, b, none⟩) x.n cap)) 26 (0, 0)) := by rw [heap_plus _ _ _ hgw]; exact HB.out
               refine (HIH.out d _ (first + (d : Int) * 8 ^ (m + 1)) _ _ hlt HV.out (HW0.out.trans (hbX.mono HW0.out.size)) HTX.out.inv HOKK.out HB1.out.1 HB1.out.2 HLL.out).mono ?_
               rintro e W ⟨rfl, hk2⟩
               rw [hc]))
          first
            | (have hT2 : Took I fp w (l ++ entsTo (m + 1) x first (d + 1)) W := by
                 rw [upTo_self hc, List.append_assoc, ← HEE.out] at hk2; exact HTX.out.then_ hk2
               have hbl : W.heap[w.heap.size]? = some (.cells (cellsN x (.slice (some ⟨g, b, none⟩) x.n cap)) 26 (0, 0)) := (hk2.mod.block _ (by rw [size_plus]; omega) (fun e => HFX.out _ e rfl)).trans HBX
               exact ⟨⟨d + 1, by omega, by go_num, by rw [HEE.out, List.all_append, HALL.out, hc]; rfl, hT2, hbl, fun b hb' => (hk2.fps b hb').elim (HFX.out b) (fun h => by rw [size_plus] at h; omega)⟩, by simp [intOf]; omega⟩)
            | (go_ret
               obtain ⟨r, hr⟩ := ents_split (m := m + 1) (x := x) (first := first) (k := d + 1) (by omega)
               have hf1 : (entsTo (m + 1) x first (d + 1)).all c = false := by rw [HEE.out, List.all_append, HALL.out, hc]; rfl
               rw [hr, upTo_not hf1, HEE.out, upTo_all HALL.out, ← HEE.out, List.all_append, hf1, ← List.append_assoc]
               exact ⟨rfl, HTX.out.then_ hk2⟩)
      · go_wp2_with (first
          | ((with_reducible refine wpList_loadN (.tmp 26) ?_ ?_ (g) (b + d * 11) ?_ (x.kid d) (.slice A' (x.kid d).n cap2) ?_ ?_); (with_reducible rfl); rfl; rfl; (intro j v hj; exact below_keeps (by (repeat' (first | (with_reducible exact Below.refl _ _) | (with_reducible assumption) | (with_reducible refine below_plus ?_ ?_ _) | (with_reducible refine Below.alloc ?_ ?_ _) | (with_reducible refine Below.drew ?_) | (with_reducible refine below_drewN ?_ _) | (with_reducible refine Below.setCell ?_ ?_ _) | (first | omega | (simp only [World.size_alloc, size_plus, World.size_drew, World.size_setCell] <;> omega) | (simp <;> omega)) | omega | (simp; omega)))) _ _ (HC.out j v hj)))
          | (go_at_call 67; refine (p_absent _ (x.kid d) _ (HV.out.keep (below_keeps HW0.out))).mono ?_; rintro e w' ⟨rfl, hb⟩; (first | (obtain ⟨X, rfl⟩ := plus_again hb) | (obtain ⟨X, rfl⟩ := plus_of_below hb)); clear hb; rw [ha]))
        have hbX : Below wr.heap.size wr (wr.plus X) := below_plus (Below.refl _ _) (Nat.le_refl _) X
        have he : entsTo (m + 1) x first (d + 1) = entsTo (m + 1) x first d := by rw [entsTo_succ, entD, if_pos ha, List.append_nil]
        exact ⟨⟨d + 1, by omega, by go_num, by rw [he]; exact HALL.out, by rw [he]; exact HT.out.below HY.out hbX, by rw [heap_plus _ _ _ hgw]; exact HB.out, fun b hb' => HF.out b ((HY.out.keep _ _ _ HT.out.inv hbX).2 b hb')⟩, by simp [intOf]; omega⟩
    · obtain rfl : d = 8 := by omega
      go_wp2_with fail
      go_ret
      rw [entsTo_8] at hall ht
      rw [hall, upTo_self hall]
      exact ⟨rfl, ht⟩

theorem p_walk {f : FuncId} {caps : Array Value} {c : Int × Int → Bool} {I : List (Int × Int) → World → Prop} {fp : World → Nat → Prop} (w0 : World) (hy : Yld2 f caps w0.heap.size c I fp) : ∀ (m : Nat), m ≤ 9 →
    ∀ (x : RN) (cs : Array Value) (first : Int) (l : List (Int × Int)) (w : World), RdVals w0 cs 11 (encN x) → Below w0.heap.size w0 w → I l w → okN m x → 0 ≤ first → first + 8 ^ (m + 1) ≤ 1073741824 → (l.length : Int) ≤ first →
      Calls Try.prog 104 #[.agg cs, .int .i64 ((m : Int) + 1), .int .i64 first, .func (.func f) #[] caps] w fun e w' => e = .returned (.bool ((ents m x first).all c)) ∧ Took I fp w (l ++ upTo c (ents m x first)) w'
  | 0, _ => fun x cs first l w hr hw hI hok h0 h1 hl => p_walk_leaf w0 hy x cs first l w hr hw hI hok h0 h1 hl
  | m + 1, hm => fun x cs first l w hr hw hI hok h0 h1 hl => by
    have := p_walk_inner w0 hy m (by omega) x (fun d cs first l w _ hr hw hI hok h0 h1 hl => p_walk w0 hy m (by omega) (x.kid d) cs first l w hr hw hI hok h0 h1 hl) cs first l w hr hw hI hok h0 h1 hl
    rw [show ((m + 1 : Nat) : Int) + 1 = (m : Int) + 2 by omega]
    exact this
end Go.Proofs.Ytcicfijpfhbcaaa
namespace Go.Proofs.Ytcicfijpfhbcaaa
set_option linter.unusedSimpArgs false
set_option linter.unusedVariables false
set_option linter.unusedSectionVars false
open Go.RowKit

/-- Function f with these captured values takes indices one after the other. -/
structure Yld1 (f : FuncId) (caps : Array Value) (B : Nat) (cy : Int → Bool) (I : List Int → World → Prop) (fp : World → Nat → Prop) : Prop where
  enter : ∀ (args : Array Value) (w : World), (callFunc f args).run Try.prog w = .ok (.enter f args) w
  keep : ∀ (l : List Int) (w w' : World), I l w → Below w.heap.size w w' → I l w' ∧ ∀ b, fp w' b → fp w b
  fpin : ∀ (l : List Int) (w : World) (b : Nat), I l w → fp w b → B ≤ b ∧ b < w.heap.size
  call : ∀ (l : List Int) (w : World) (i : Int), 0 ≤ i → i < 1073741824 → I l w → (l.length : Int) ≤ i →
    Calls Try.prog f (#[.int .i64 i] ++ caps) w fun e w' => e = .returned (.bool (cy i)) ∧ I (l ++ [i]) w' ∧ Mod (fp w) w w' ∧ ∀ b, fp w' b → fp w b ∨ w.heap.size ≤ b

/-- The entry is to be taken: it has the tag, or none is asked for. -/
def selB (tag : Int) (p : Int × Int) : Bool := !(decide (0 ≤ tag) && (bits .and .i64 (p.2 / 2 ^ tag.toNat) 1 == 0))
def sel (tag : Int) (l : List (Int × Int)) : List Int := (l.filter (selB tag)).map Prod.fst
def cE (tag : Int) (cy : Int → Bool) (p : Int × Int) : Bool := !selB tag p || cy p.1
theorem sel_append (tag : Int) (a b : List (Int × Int)) : sel tag (a ++ b) = sel tag a ++ sel tag b := by simp [sel]
theorem sel_upTo (tag : Int) (cy : Int → Bool) : ∀ l : List (Int × Int), sel tag (upTo (cE tag cy) l) = upTo cy (sel tag l)
  | [] => rfl
  | p :: r => by
    have ih := sel_upTo tag cy r
    cases hs : selB tag p
    · have hc : cE tag cy p = true := by simp [cE, hs]
      have e1 : sel tag (p :: r) = sel tag r := by simp [sel, hs]
      rw [upTo, if_pos hc, e1, ← ih]
      simp [sel, hs]
    · have hc : cE tag cy p = cy p.1 := by simp [cE, hs]
      have e1 : ∀ q, sel tag (p :: q) = p.1 :: sel tag q := fun q => by simp [sel, hs]
      rw [upTo, hc, e1, upTo]
      cases cy p.1
      · simp only [Bool.false_eq_true, if_false]; rw [e1]; rfl
      · simp only [if_true]; rw [e1, ih]

/-- The state of each$1. -/
structure EachI (f : FuncId) (caps : Array Value) (tag : Int) (g4 g5 : Nat) (l0 : List Int) (I : List Int → World → Prop) (fp : World → Nat → Prop) (l : List (Int × Int)) (w : World) : Prop where
  inv : I (l0 ++ sel tag l) w
  c4 : w.cell? ⟨g4, 0, none⟩ = some (.int .i64 tag)
  c5 : w.cell? ⟨g5, 0, none⟩ = some (.func (.func f) #[] caps)
  n4 : ¬ fp w g4
  n5 : ¬ fp w g5

theorem cell_mod {G : Nat → Prop} {w w' : World} {g : Nat} {v : Value} (h : Mod G w w') (hc : w.cell? ⟨g, 0, none⟩ = some v) (hn : ¬ G g) : w'.cell? ⟨g, 0, none⟩ = some v := by
  rw [World.cell?_of_block (a := ⟨g, 0, none⟩) (h.block g (World.block_lt_of_cell? w _ hc) hn)]; exact hc

set_option maxRecDepth 100000 in
set_option maxHeartbeats 1000000 in
theorem p_each1 {f : FuncId} {caps : Array Value} {B : Nat} {cy : Int → Bool} {I : List Int → World → Prop} {fp : World → Nat → Prop} (hy : Yld1 f caps B cy I fp) (tag : Int) (ht0 : -1 ≤ tag) (ht1 : tag ≤ 1) (g4 g5 : Nat) (l0 : List Int) (hl0 : l0 = []) :
    Yld2 105 #[.pointer (some ⟨g4, 0, none⟩), .pointer (some ⟨g5, 0, none⟩)] B (cE tag cy) (EachI f caps tag g4 g5 l0 I fp) fp where
  enter args w := rfl
  keep l w w' h hb := by
    have hk := hy.keep _ _ _ h.inv hb
    exact ⟨⟨hk.1, below_keeps hb _ _ h.c4, below_keeps hb _ _ h.c5, fun e => h.n4 (hk.2 _ e), fun e => h.n5 (hk.2 _ e)⟩, hk.2⟩
  fpin l w b h hb := hy.fpin _ _ _ h.inv hb
  call l w i t i0 i1 t0 t1 h hll := by
    have HE := hy.enter
    have HC := Lib.hid (hy.call _ w i i0 i1 h.inv (by
      subst hl0
      rw [List.nil_append]
      have : (sel tag l).length ≤ l.length := by unfold sel; rw [List.length_map]; exact List.length_filter_le _ _
      omega))
    clear hll hl0
    have c4 := h.c4
    have c5 := h.c5
    have H := Lib.hid h
    have HY := Lib.hid hy
    have tcase : tag = -1 ∨ tag = 0 ∨ tag = 1 := by omega
    clear h hy
    have hlt : ∀ {g : Nat} {v : Value}, w.cell? ⟨g, 0, none⟩ = some v → g < w.heap.size := fun hc => World.block_lt_of_cell? w _ hc
    have H4 := Lib.hid (hlt c4)
    have H5 := Lib.hid (hlt c5)
    clear hlt
    cases hs : selB tag (i, t)
    · have hsl : sel tag (l ++ [(i, t)]) = sel tag l := by rw [sel_append]; simp [sel, hs]
      have hce : cE tag cy (i, t) = true := by simp [cE, hs]
      have HFIN : Hid (EachI f caps tag g4 g5 l0 I fp (l ++ [(i, t)]) w ∧ Mod (fp w) w w ∧ ∀ b, fp w b → fp w b ∨ w.heap.size ≤ b) :=
        ⟨⟨by rw [hsl]; exact H.out.inv, c4, c5, H.out.n4, H.out.n5⟩, Mod.refl _ _, fun _ h => .inl h⟩
      rw [hce]
      unfold selB at hs
      clear hsl hce
      rcases tcase with rfl | rfl | rfl
      · simp at hs
      · have hb : (bits .and .i64 t 1 == 0) = true := by simpa using hs
        clear hs
        go_enter Try.func105, Try.ntmps105
        go_wp2_with fail
        go_ret
        exact ⟨rfl, HFIN.out⟩
      · have hb : (bits .and .i64 (t / 2) 1 == 0) = true := by simpa using hs
        clear hs
        go_enter Try.func105, Try.ntmps105
        go_wp2_with fail
        go_ret
        exact ⟨rfl, HFIN.out⟩
    · have hsl : sel tag (l ++ [(i, t)]) = sel tag l ++ [i] := by rw [sel_append]; simp [sel, hs]
      have hce : cE tag cy (i, t) = cy i := by simp [cE, hs]
      have HFIN : Hid (∀ W : World, I (l0 ++ sel tag l ++ [i]) W → Mod (fp w) w W → (∀ b, fp W b → fp w b ∨ w.heap.size ≤ b) → EachI f caps tag g4 g5 l0 I fp (l ++ [(i, t)]) W) := fun W hI hm hf =>
        ⟨by rw [hsl, ← List.append_assoc]; exact hI, cell_mod hm c4 H.out.n4, cell_mod hm c5 H.out.n5, fun e => (hf _ e).elim H.out.n4 (fun e => by have := H4.out; omega), fun e => (hf _ e).elim H.out.n5 (fun e => by have := H5.out; omega)⟩
      rw [hce]
      unfold selB at hs
      clear hce hsl
      rcases tcase with rfl | rfl | rfl
      · clear hs
        go_enter Try.func105, Try.ntmps105
        go_wp2_with ((with_reducible refine HC.out.mono ?_); rintro e W ⟨rfl, hI', hm, hf⟩)
        go_ret
        exact ⟨rfl, HFIN.out W hI' hm hf, hm, hf⟩
      · have hb : (bits .and .i64 t 1 == 0) = false := by simpa using hs
        clear hs
        go_enter Try.func105, Try.ntmps105
        go_wp2_with ((with_reducible refine HC.out.mono ?_); rintro e W ⟨rfl, hI', hm, hf⟩)
        go_ret
        exact ⟨rfl, HFIN.out W hI' hm hf, hm, hf⟩
      · have hb : (bits .and .i64 (t / 2) 1 == 0) = false := by simpa using hs
        clear hs
        go_enter Try.func105, Try.ntmps105
        go_wp2_with ((with_reducible refine HC.out.mono ?_); rintro e W ⟨rfl, hI', hm, hf⟩)
        go_ret
        exact ⟨rfl, HFIN.out W hI' hm hf, hm, hf⟩

/-- The indices of the entries that have the tag. -/
def eachL (ht : Int) (x : RN) (tag : Int) : List Int := if checkP ht x ≠ 0 ∨ ht = 0 ∨ tag < -1 ∨ 1 < tag then [] else sel tag (ents (ht.toNat - 1) x 0)
def EachPost (cy : Int → Bool) (I : List Int → World → Prop) (fp : World → Nat → Prop) (l0 L : List Int) (w : World) (e : Ending) (w' : World) : Prop :=
  e = .returned (.tuple #[]) ∧ I (l0 ++ upTo cy L) w' ∧ Mod (fp w) w w' ∧ ∀ b, fp w' b → fp w b ∨ w.heap.size ≤ b

set_option maxRecDepth 100000 in
set_option maxHeartbeats 1000000 in
theorem p_each_no {f : FuncId} {caps : Array Value} {cy : Int → Bool} {I : List Int → World → Prop} {fp : World → Nat → Prop} (w0 : World) (hy : Yld1 f caps w0.heap.size cy I fp)
    (cs : Array Value) (ht : Int) (x : RN) (tag : Int) (l0 : List Int) (w : World) (hr : RdVals w0 cs 12 (encR ht x)) (hw : Below w0.heap.size w0 w) (hI : I l0 w) (hl0 : l0 = [])
    (hno : checkP ht x ≠ 0 ∨ ht = 0 ∨ tag < -1 ∨ 1 < tag) :
    Calls Try.prog 83 #[.agg cs, .int .i64 tag, .func (.func f) #[] caps] w (EachPost cy I fp l0 (eachL ht x tag) w) := by
  subst hl0
  have hl : eachL ht x tag = [] := by unfold eachL; rw [if_pos hno]
  rw [hl]
  obtain ⟨A, cap, rfl, hk⟩ := rdR_open hr
  have HRW := Lib.hid (hr.keep (below_keeps hw))
  have HI := Lib.hid hI
  have HY := Lib.hid hy
  have HF : Hid (∀ W, Below w.heap.size w W → EachPost cy I fp [] [] w (.returned (.tuple #[])) W) := fun W hb => by
    have hk := HY.out.keep _ _ _ HI.out hb
    exact ⟨rfl, by simpa [upTo] using hk.1, Mod.below_ (Mod.refl _ _) hb, fun b h => .inl (hk.2 b h)⟩
  clear hr hk hw hI hy hl
  have hce : checkP ht x = 0 ∨ checkP ht x ≠ 0 := by omega
  have hcase : checkP ht x ≠ 0 ∨ (checkP ht x = 0 ∧ (ht = 0 ∨ (ht ≠ 0 ∧ (tag < -1 ∨ -1 ≤ tag ∧ 1 < tag)))) := by omega
  clear hno hce
  rcases hcase with hc | ⟨hc, hz | ⟨hz, htg | ⟨htg, htg'⟩⟩⟩
  · have hcb : (checkP ht x != 0) = true := by simp [hc]
    clear hc
    go_enter Try.func83, Try.ntmps83
    go_wp2_with (go_at_call 19; refine (p_Check _ ht x _ ?_).mono ?_; exact HRW.out.keep (below_keeps (by (repeat' (first | (with_reducible exact Below.refl _ _) | (with_reducible assumption) | (with_reducible refine below_plus ?_ ?_ _) | (with_reducible refine Below.alloc ?_ ?_ _) | (with_reducible refine Below.drew ?_) | (with_reducible refine below_drewN ?_ _) | (with_reducible refine Below.setCell ?_ ?_ _) | (first | omega | (simp only [World.size_alloc, size_plus, World.size_drew, World.size_setCell] <;> omega) | (simp <;> omega)) | omega | (simp; omega))))); rintro e w' ⟨rfl, hb⟩; (first | (obtain ⟨X, rfl⟩ := plus_again hb) | (obtain ⟨X, rfl⟩ := plus_of_below hb)); clear hb)
    refine bodyPost_ret (results_none rfl _ _ _) rfl ?_
    exact HF.out _ (by (repeat' (first | (with_reducible exact Below.refl _ _) | (with_reducible assumption) | (with_reducible refine below_plus ?_ ?_ _) | (with_reducible refine Below.alloc ?_ ?_ _) | (with_reducible refine Below.drew ?_) | (with_reducible refine below_drewN ?_ _) | (with_reducible refine Below.setCell ?_ ?_ _) | (first | omega | (simp only [World.size_alloc, size_plus, World.size_drew, World.size_setCell] <;> omega) | (simp <;> omega)) | omega | (simp; omega))))
  · have hcb : (checkP ht x != 0) = false := by simp [hc]
    have hzb : (ht == 0) = true := by simp [hz]
    clear hc hz
    go_enter Try.func83, Try.ntmps83
    go_wp2_with (go_at_call 19; refine (p_Check _ ht x _ ?_).mono ?_; exact HRW.out.keep (below_keeps (by (repeat' (first | (with_reducible exact Below.refl _ _) | (with_reducible assumption) | (with_reducible refine below_plus ?_ ?_ _) | (with_reducible refine Below.alloc ?_ ?_ _) | (with_reducible refine Below.drew ?_) | (with_reducible refine below_drewN ?_ _) | (with_reducible refine Below.setCell ?_ ?_ _) | (first | omega | (simp only [World.size_alloc, size_plus, World.size_drew, World.size_setCell] <;> omega) | (simp <;> omega)) | omega | (simp; omega))))); rintro e w' ⟨rfl, hb⟩; (first | (obtain ⟨X, rfl⟩ := plus_again hb) | (obtain ⟨X, rfl⟩ := plus_of_below hb)); clear hb)
    refine bodyPost_ret (results_none rfl _ _ _) rfl ?_
    exact HF.out _ (by (repeat' (first | (with_reducible exact Below.refl _ _) | (with_reducible assumption) | (with_reducible refine below_plus ?_ ?_ _) | (with_reducible refine Below.alloc ?_ ?_ _) | (with_reducible refine Below.drew ?_) | (with_reducible refine below_drewN ?_ _) | (with_reducible refine Below.setCell ?_ ?_ _) | (first | omega | (simp only [World.size_alloc, size_plus, World.size_drew, World.size_setCell] <;> omega) | (simp <;> omega)) | omega | (simp; omega))))
  all_goals
    have hcb : (checkP ht x != 0) = false := by simp [hc]
    have hzb : (ht == 0) = false := by simp [hz]
    clear hc hz
    go_enter Try.func83, Try.ntmps83
    go_wp2_with (go_at_call 19; refine (p_Check _ ht x _ ?_).mono ?_; exact HRW.out.keep (below_keeps (by (repeat' (first | (with_reducible exact Below.refl _ _) | (with_reducible assumption) | (with_reducible refine below_plus ?_ ?_ _) | (with_reducible refine Below.alloc ?_ ?_ _) | (with_reducible refine Below.drew ?_) | (with_reducible refine below_drewN ?_ _) | (with_reducible refine Below.setCell ?_ ?_ _) | (first | omega | (simp only [World.size_alloc, size_plus, World.size_drew, World.size_setCell] <;> omega) | (simp <;> omega)) | omega | (simp; omega))))); rintro e w' ⟨rfl, hb⟩; (first | (obtain ⟨X, rfl⟩ := plus_again hb) | (obtain ⟨X, rfl⟩ := plus_of_below hb)); clear hb)
    refine bodyPost_ret (results_none rfl _ _ _) rfl ?_
    exact HF.out _ (by (repeat' (first | (with_reducible exact Below.refl _ _) | (with_reducible assumption) | (with_reducible refine below_plus ?_ ?_ _) | (with_reducible refine Below.alloc ?_ ?_ _) | (with_reducible refine Below.drew ?_) | (with_reducible refine below_drewN ?_ _) | (with_reducible refine Below.setCell ?_ ?_ _) | (first | omega | (simp only [World.size_alloc, size_plus, World.size_drew, World.size_setCell] <;> omega) | (simp <;> omega)) | omega | (simp; omega))))

set_option maxRecDepth 100000 in
set_option maxHeartbeats 1000000 in
theorem p_each_yes {f : FuncId} {caps : Array Value} {cy : Int → Bool} {I : List Int → World → Prop} {fp : World → Nat → Prop} (w0 : World) (hy : Yld1 f caps w0.heap.size cy I fp)
    (cs : Array Value) (m : Nat) (x : RN) (tag : Int) (l0 : List Int) (w : World) (hr : RdVals w0 cs 12 (encR ((m : Int) + 1) x)) (hw : Below w0.heap.size w0 w) (hI : I l0 w) (hl0 : l0 = [])
    (hc : checkP ((m : Int) + 1) x = 0) (hm : m ≤ 9) (hok : okN m x) (t0 : -1 ≤ tag) (t1 : tag ≤ 1) :
    Calls Try.prog 83 #[.agg cs, .int .i64 tag, .func (.func f) #[] caps] w (EachPost cy I fp l0 (eachL ((m : Int) + 1) x tag) w) := by
  subst hl0
  have hl : eachL ((m : Int) + 1) x tag = sel tag (ents m x 0) := by
    unfold eachL; rw [if_neg (by omega), show (((m : Int) + 1).toNat - 1) = m by omega]
  rw [hl]
  obtain ⟨A, cap, rfl, hk⟩ := rdR_open hr
  have HN := Lib.hid (rdN_shut hk)
  have HRW := Lib.hid (hr.keep (below_keeps hw))
  have HW := Lib.hid hw
  have HI := Lib.hid hI
  have HY := Lib.hid hy
  have HOK := Lib.hid hok
  have hcb : (checkP ((m : Int) + 1) x != 0) = false := by simp [hc]
  have hzb : ((m : Int) + 1 == 0) = false := by simp; omega
  have hm9 : (m : Int) ≤ 9 := by omega
  have hp8 : (0 : Int) + 8 ^ (m + 1) ≤ 1073741824 := by
    have h1 : (8 : Nat) ^ (m + 1) ≤ 8 ^ 10 := pow8_mono (by omega)
    have h9 : (8 : Nat) ^ 10 = 1073741824 := by decide
    rw [h9] at h1
    have h2 : ((8 ^ (m + 1) : Nat) : Int) ≤ 1073741824 := Int.ofNat_le.2 h1
    rw [Int.natCast_pow] at h2
    rw [Int.zero_add]; exact h2
  have HP8 := Lib.hid hp8
  clear hr hk hw hI hy hl hc hok hp8
  go_enter Try.func83, Try.ntmps83
  go_wp2_with (first
    | (go_at_call 19; refine (p_Check _ ((m : Int) + 1) x _ ?_).mono ?_; exact HRW.out.keep (below_keeps (by (repeat' (first | (with_reducible exact Below.refl _ _) | (with_reducible assumption) | (with_reducible refine below_plus ?_ ?_ _) | (with_reducible refine Below.alloc ?_ ?_ _) | (with_reducible refine Below.drew ?_) | (with_reducible refine below_drewN ?_ _) | (with_reducible refine Below.setCell ?_ ?_ _) | (first | omega | (simp only [World.size_alloc, size_plus, World.size_drew, World.size_setCell] <;> omega) | (simp <;> omega)) | omega | (simp; omega))))); rintro e w' ⟨rfl, hb⟩; (first | (obtain ⟨X, rfl⟩ := plus_again hb) | (obtain ⟨X, rfl⟩ := plus_of_below hb)); clear hb)
    | (go_at_call 104
       generalize hW1 : World.plus (World.alloc (World.alloc (World.alloc w _) _) _) _ = W1
       have hB := Boxes.start hW1
       clear hW1
       have hk := HY.out.keep _ _ _ HI.out hB.below
       have hf4 : ∀ g, w.heap.size ≤ g → ¬ fp W1 g := fun g hg hh => by have := (HY.out.fpin _ _ _ HI.out (hk.2 _ hh)).2; omega
       have hE : EachI f caps tag (w.heap.size + 1) (w.heap.size + 1 + 1) [] I fp [] W1 :=
         ⟨by simpa [sel] using hk.1, by rw [cell_of_row _ _ _ _ _ _ hB.b5]; rfl, by rw [cell_of_row _ _ _ _ _ _ hB.b6]; rfl, hf4 _ (by omega), hf4 _ (by omega)⟩
       refine (p_walk w0 (p_each1 HY.out tag t0 t1 (w.heap.size + 1) (w.heap.size + 1 + 1) [] rfl) m hm x _ 0 [] W1 HN.out (HW.out.trans (hB.below.mono HW.out.size)) hE HOK.out (by omega) HP8.out (by simp)).mono ?_
       rintro e W2 ⟨rfl, ht⟩))
  go_end0
  have hinv := ht.inv.inv
  simp only [List.nil_append] at hinv
  rw [sel_upTo] at hinv
  exact ⟨rfl, hinv, (Mod.below_ (Mod.refl (fp w) w) hB.below).trans ht.mod (fun i hi h => hk.2 i h), fun b hb => (ht.fps b hb).elim (fun h => .inl (hk.2 b h)) (fun h => .inr (Nat.le_trans hB.below.size h))⟩

theorem p_each {f : FuncId} {caps : Array Value} {cy : Int → Bool} {I : List Int → World → Prop} {fp : World → Nat → Prop} (w0 : World) (hy : Yld1 f caps w0.heap.size cy I fp)
    (cs : Array Value) (ht : Int) (x : RN) (tag : Int) (l0 : List Int) (w : World) (hr : RdVals w0 cs 12 (encR ht x)) (hw : Below w0.heap.size w0 w) (hI : I l0 w) (hl0 : l0 = []) :
    Calls Try.prog 83 #[.agg cs, .int .i64 tag, .func (.func f) #[] caps] w (EachPost cy I fp l0 (eachL ht x tag) w) := by
  by_cases hno : checkP ht x ≠ 0 ∨ ht = 0 ∨ tag < -1 ∨ 1 < tag
  · exact p_each_no w0 hy cs ht x tag l0 w hr hw hI hl0 hno
  · have hc : checkP ht x = 0 := by omega
    have hb := check_neg hc
    obtain ⟨m, rfl⟩ : ∃ m : Nat, ht = (m : Int) + 1 := ⟨(ht - 1).toNat, by omega⟩
    have hT : okT (m + 1) x := check_iff.1 (by rw [← hc]; rfl)
    have hok : okN m x := by
      rcases hT with h | h
      · omega
      · exact h.2.2.1
    exact p_each_yes w0 hy cs m x tag l0 w hr hw hI hl0 hc (by omega) hok (by omega) (by omega)
end Go.Proofs.Ytcicfijpfhbcaaa
namespace Go.Proofs.Ytcicfijpfhbcaaa
set_option linter.unusedSimpArgs false
set_option linter.unusedVariables false
set_option linter.unusedSectionVars false
open Go.RowKit

theorem Boxes.start0 {w W : World} {c3 c5 c6 : Array Value} {t3 t5 t6 : TypeId} (h : ((w.alloc (.cells c3 t3)).alloc (.cells c5 t5)).alloc (.cells c6 t6) = W) : Boxes w W c3 c5 c6 t3 t5 t6 :=
  Boxes.start (X := ⟨#[], W.drawn⟩) (by rw [h]; exact plus_self W)
theorem cell_one {w : World} {g : Nat} {v : Value} {t : TypeId} (h : w.heap[g]? = some (.cells #[v] t (0, 0))) : w.cell? ⟨g, 0, none⟩ = some v := by rw [cell_of_row _ _ _ _ _ _ h]; rfl
theorem heap_set_one {w : World} {g : Nat} {v : Value} {t : TypeId} (h : w.heap[g]? = some (.cells #[v] t (0, 0))) (u : Value) : (w.setCell ⟨g, 0, none⟩ u).heap[g]? = some (.cells #[u] t (0, 0)) := by
  rw [heap_setCell_same w g 0 _ _ _ h]; rfl

/-- The last taken index that is not below 'from', or -1. -/
def lastG (frm : Int) (l : List Int) : Int := l.foldl (fun a i => if frm ≤ i then i else a) (-1)
theorem lastG_append (frm : Int) (l : List Int) (i : Int) : lastG frm (l ++ [i]) = if frm ≤ i then i else lastG frm l := by simp [lastG]
structure NextI (frm : Int) (g4 g7 : Nat) (l : List Int) (w : World) : Prop where
  b4 : w.heap[g4]? = some (.cells #[.int .i64 frm] 3 (0, 0))
  b7 : w.heap[g7]? = some (.cells #[.int .i64 (lastG frm l)] 3 (0, 0))

set_option maxRecDepth 100000 in
set_option maxHeartbeats 1000000 in
theorem p_Next1 (frm : Int) (B g4 g7 : Nat) (hB : B ≤ g7) (hne : g4 ≠ g7) : Yld1 84 #[.pointer (some ⟨g4, 0, none⟩), .pointer (some ⟨g7, 0, none⟩)] B (fun i => decide (i < frm)) (NextI frm g4 g7) (fun _ b => b = g7) where
  enter args w := rfl
  keep l w w' h hb := ⟨⟨by rw [hb.block _ (lt_of_heap h.b4)]; exact h.b4, by rw [hb.block _ (lt_of_heap h.b7)]; exact h.b7⟩, fun b hb => hb⟩
  fpin l w b h hb := ⟨by omega, by have := lt_of_heap h.b7; omega⟩
  call l w i i0 i1 h _ := by
    have c4 := cell_one h.b4
    have c7 := cell_one h.b7
    have f7 := frozen_of_row w g7 0 _ _ h.b7
    have H := Lib.hid h
    clear h
    by_cases hi : frm ≤ i
    · have hd : decide (i < frm) = false := by simp; omega
      rw [hd]
      clear hd
      go_enter Try.func84, Try.ntmps84
      go_wp2_with fail
      go_ret
      refine ⟨by simp [hi], ⟨by rw [heap_setCell_other w _ g4 _ hne]; exact H.out.b4, by rw [lastG_append, if_pos hi]; exact heap_set_one H.out.b7 _⟩, Mod.setCell w g7 0 _, fun b hb => .inl hb⟩
    · have hi' : i < frm := by omega
      have hd : decide (i < frm) = true := by simp [hi']
      rw [hd]
      clear hd
      go_enter Try.func84, Try.ntmps84
      go_wp2_with fail
      go_ret
      exact ⟨by simp, ⟨H.out.b4, by rw [lastG_append, if_neg (by omega)]; exact H.out.b7⟩, Mod.refl _ _⟩

def nextP (ht : Int) (x : RN) (frm tag : Int) : Int := if frm < 0 then -1 else lastG frm (upTo (fun i => decide (i < frm)) (eachL ht x tag))

set_option maxRecDepth 100000 in
set_option maxHeartbeats 1000000 in
theorem p_Next (cs : Array Value) (ht : Int) (x : RN) (frm tag : Int) (w : World) (hr : RdVals w cs 12 (encR ht x)) :
    Calls Try.prog 28 #[.agg cs, .int .i64 frm, .int .i64 tag] w fun e w' => e = .returned (.int .i64 (nextP ht x frm tag)) ∧ Below w.heap.size w w' := by
  obtain ⟨A, cap, rfl, hk⟩ := rdR_open hr
  have HR := Lib.hid hr
  clear hr hk
  by_cases h0 : frm < 0
  · go_enter Try.func28, Try.ntmps28
    go_wp2_with fail
    go_ret
    exact ⟨by rw [nextP, if_pos h0]; rfl, by (repeat' (first | (with_reducible exact Below.refl _ _) | (with_reducible assumption) | (with_reducible refine below_plus ?_ ?_ _) | (with_reducible refine Below.alloc ?_ ?_ _) | (with_reducible refine Below.drew ?_) | (with_reducible refine below_drewN ?_ _) | (with_reducible refine Below.setCell ?_ ?_ _) | (first | omega | (simp only [World.size_alloc, size_plus, World.size_drew, World.size_setCell] <;> omega) | (simp <;> omega)) | omega | (simp; omega)))⟩
  · have h0' : 0 ≤ frm := by omega
    have hp : nextP ht x frm tag = lastG frm (upTo (fun i => decide (i < frm)) (eachL ht x tag)) := by rw [nextP, if_neg h0]
    have HP := Lib.hid hp
    clear hp h0
    go_enter Try.func28, Try.ntmps28
    go_wp2_with (first | (go_at_call 83; refine (p_each w (p_Next1 frm w.heap.size (w.heap.size + 1) (w.heap.size + 1 + 1) (by omega) (by omega)) _ ht x tag [] _ HR.out ?_ ?_ rfl).mono ?_; (focus (repeat' (first | (with_reducible exact Below.refl _ _) | (with_reducible assumption) | (with_reducible refine below_plus ?_ ?_ _) | (with_reducible refine Below.alloc ?_ ?_ _) | (with_reducible refine Below.drew ?_) | (with_reducible refine below_drewN ?_ _) | (with_reducible refine Below.setCell ?_ ?_ _) | (first | omega | (simp only [World.size_alloc, size_plus, World.size_drew, World.size_setCell] <;> omega) | (simp <;> omega)) | omega | (simp; omega)))); exact ⟨(Below.heap_alloc _ _ _ (by simp)).trans (heap_alloc_here _ _ _ (by simp)), heap_alloc_here _ _ _ (by simp)⟩; rintro e W2 ⟨rfl, hI, hm, -⟩; have c7 := cell_one hI.b7))
    go_ret
    refine ⟨by rw [HP.out]; rfl, Below.trans ?_ (hm.below ?_ fun k e => by omega)⟩
    · (repeat' (first | (with_reducible exact Below.refl _ _) | (with_reducible assumption) | (with_reducible refine below_plus ?_ ?_ _) | (with_reducible refine Below.alloc ?_ ?_ _) | (with_reducible refine Below.drew ?_) | (with_reducible refine below_drewN ?_ _) | (with_reducible refine Below.setCell ?_ ?_ _) | (first | omega | (simp only [World.size_alloc, size_plus, World.size_drew, World.size_setCell] <;> omega) | (simp <;> omega)) | omega | (simp; omega)))
    · simp; omega

theorem wrap_len0 : wrap64 ((([] : List Int).length : Nat) : Int) = 0 := by simp [wrap64]
structure CountI (g5 : Nat) (l : List Int) (w : World) : Prop where
  b5 : w.heap[g5]? = some (.cells #[.int .i64 (wrap64 l.length)] 3 (0, 0))
theorem wrap_wrap (a : Int) : wrap64 (wrap64 a + 1) = wrap64 (a + 1) := by unfold wrap64; omega

set_option maxRecDepth 100000 in
set_option maxHeartbeats 1000000 in
theorem p_Count1 (B g5 : Nat) (hB : B ≤ g5) : Yld1 85 #[.pointer (some ⟨g5, 0, none⟩)] B (fun _ => true) (CountI g5) (fun _ b => b = g5) where
  enter args w := rfl
  keep l w w' h hb := ⟨⟨by rw [hb.block _ (lt_of_heap h.b5)]; exact h.b5⟩, fun b hb => hb⟩
  fpin l w b h hb := ⟨by omega, by have := lt_of_heap h.b5; omega⟩
  call l w i i0 i1 h _ := by
    have c5 := cell_one h.b5
    have f5 := frozen_of_row w g5 0 _ _ h.b5
    have H := Lib.hid h
    have hw := wrap_wrap l.length
    generalize hk : wrap64 (l.length : Int) = k at c5 hw
    have hkk := Lib.hid hk
    have hww := Lib.hid hw
    clear h hk hw
    go_enter Try.func85, Try.ntmps85
    go_wp2_with fail
    go_ret
    refine ⟨rfl, ⟨?_⟩, Mod.setCell w g5 0 _, fun b hb => .inl hb⟩
    have e : wrap64 ((l ++ [i]).length : Int) = wrap64 (k + 1) := by rw [hww.out]; simp
    rw [e]
    have hb := H.out.b5
    rw [hkk.out] at hb
    exact heap_set_one hb _

theorem eachL_len (ht : Int) (x : RN) (tag : Int) : (eachL ht x tag).length ≤ 1073741824 := by
  unfold eachL
  split
  · simp
  · rename_i h
    have hc : checkP ht x = 0 := by omega
    have hb := check_neg hc
    unfold sel
    rw [List.length_map]
    refine Nat.le_trans (List.length_filter_le _ _) (Nat.le_trans (ents_len _ _ _) ?_)
    have h1 : (8 : Nat) ^ (ht.toNat - 1 + 1) ≤ 8 ^ 10 := pow8_mono (by omega)
    have h9 : (8 : Nat) ^ 10 = 1073741824 := by decide
    omega

def countP (ht : Int) (x : RN) (tag : Int) : Int := (eachL ht x tag).length

set_option maxRecDepth 100000 in
set_option maxHeartbeats 1000000 in
theorem p_Count (cs : Array Value) (ht : Int) (x : RN) (tag : Int) (w : World) (hr : RdVals w cs 12 (encR ht x)) :
    Calls Try.prog 30 #[.agg cs, .int .i64 tag] w fun e w' => e = .returned (.int .i64 (countP ht x tag)) ∧ Below w.heap.size w w' := by
  obtain ⟨A, cap, rfl, hk⟩ := rdR_open hr
  have HR := Lib.hid hr
  have hlen := eachL_len ht x tag
  have HP : Hid (wrap64 ((eachL ht x tag).length : Int) = countP ht x tag) := by unfold Hid wrap64 countP; omega
  clear hr hk hlen
  go_enter Try.func30, Try.ntmps30
  go_wp2_with (first | (go_at_call 83; refine (p_each w (p_Count1 w.heap.size (w.heap.size + 1) (by omega)) _ ht x tag [] _ HR.out ?_ ?_ rfl).mono ?_; (focus (repeat' (first | (with_reducible exact Below.refl _ _) | (with_reducible assumption) | (with_reducible refine below_plus ?_ ?_ _) | (with_reducible refine Below.alloc ?_ ?_ _) | (with_reducible refine Below.drew ?_) | (with_reducible refine below_drewN ?_ _) | (with_reducible refine Below.setCell ?_ ?_ _) | (first | omega | (simp only [World.size_alloc, size_plus, World.size_drew, World.size_setCell] <;> omega) | (simp <;> omega)) | omega | (simp; omega)))); exact CountI.mk (by rw [show wrap64 ((([] : List Int).length : Nat) : Int) = 0 from wrap_len0]; exact heap_alloc_here _ _ _ (by simp)); rintro e W2 ⟨rfl, hI, hm, -⟩; rw [List.nil_append, upTo_self (List.all_eq_true.2 fun _ _ => rfl)] at hI; have c7 := cell_one hI.b5; rw [HP.out] at c7))
  go_ret
  refine ⟨rfl, Below.trans ?_ (hm.below ?_ fun k e => by omega)⟩
  · (repeat' (first | (with_reducible exact Below.refl _ _) | (with_reducible assumption) | (with_reducible refine below_plus ?_ ?_ _) | (with_reducible refine Below.alloc ?_ ?_ _) | (with_reducible refine Below.drew ?_) | (with_reducible refine below_drewN ?_ _) | (with_reducible refine Below.setCell ?_ ?_ _) | (first | omega | (simp only [World.size_alloc, size_plus, World.size_drew, World.size_setCell] <;> omega) | (simp <;> omega)) | omega | (simp; omega)))
  · simp; omega
end Go.Proofs.Ytcicfijpfhbcaaa
