/-
  radix.walk.
-/
import Derived.Test.YtcicfijpfhbcaaaPt
import Derived.StillTailTactics
namespace Go.Proofs.Ytcicfijpfhbcaaa
set_option linter.unusedSimpArgs false
set_option linter.unusedVariables false
set_option linter.unusedSectionVars false
open Go.RowKit

/-- A tag of an entry as a number. -/
def tagI (t : Int) (d : Nat) : Int := if bitB t d then 1 else 0
set_option maxRecDepth 100000 in
theorem tag_tab : ∀ t : Fin 256, ∀ d : Fin 8, bits .and .i64 ((t.1 : Int) / 2 ^ d.1) 1 = tagI (t.1 : Int) d.1 := by decide +kernel
theorem tag_bits {t : Int} (h : rng t) {d : Nat} (hd : d < 8) : bits .and .i64 (t / 2 ^ d) 1 = tagI t d := by
  obtain ⟨k, rfl⟩ := rng_fin h
  exact tag_tab k ⟨d, hd⟩
theorem tagI_bound (t : Int) (d : Nat) : 0 ≤ tagI t d ∧ tagI t d ≤ 1 := by unfold tagI; split <;> omega
/-- Entry d of a leaf, if there is one: its index and its tags. -/
def entL (x : RN) (first : Int) (d : Nat) : List (Int × Int) := if x.v d = 0 then [] else [(first + d, tagI x.t0 d + tagI x.t1 d * 2)]
/-- The entries below a node of level m + 1, in order. -/
def ents : Nat → RN → Int → List (Int × Int)
  | 0, x, first => (List.range 8).flatMap (entL x first)
  | m + 1, x, first => (List.range 8).flatMap fun d => if absentB (x.kid d) then [] else ents m (x.kid d) (first + d * 8 ^ (m + 1))
/-- What child number d gives. -/
def entD : Nat → RN → Int → Nat → List (Int × Int)
  | 0, x, first, d => entL x first d
  | m + 1, x, first, d => if absentB (x.kid d) then [] else ents m (x.kid d) (first + d * 8 ^ (m + 1))
def entsTo (m : Nat) (x : RN) (first : Int) (k : Nat) : List (Int × Int) := (List.range k).flatMap (entD m x first)
theorem entsTo_8 (m : Nat) (x : RN) (first : Int) : entsTo m x first 8 = ents m x first := by cases m <;> rfl
theorem entsTo_succ (m : Nat) (x : RN) (first : Int) (k : Nat) : entsTo m x first (k + 1) = entsTo m x first k ++ entD m x first k := by simp [entsTo, List.range_succ]

theorem ents_split {m : Nat} {x : RN} {first : Int} {k : Nat} (hk : k ≤ 8) : ∃ r, ents m x first = entsTo m x first k ++ r := by
  refine ⟨((List.range 8).drop k).flatMap (entD m x first), ?_⟩
  have e : List.range 8 = List.range k ++ (List.range 8).drop k := by
    have := List.take_append_drop k (List.range 8)
    rw [List.take_range, Nat.min_eq_left hk] at this
    exact this.symm
  rw [← entsTo_8]
  unfold entsTo
  conv => lhs; rw [e]
  rw [List.flatMap_append]
/-- As far as c lets it go, with the one that stops it. -/
def upTo {α : Type} (c : α → Bool) : List α → List α
  | [] => []
  | a :: r => if c a then a :: upTo c r else [a]
theorem upTo_all {α : Type} {c : α → Bool} : ∀ {a : List α}, a.all c = true → ∀ b, upTo c (a ++ b) = a ++ upTo c b
  | [], _, _ => rfl
  | x :: a, h, b => by
    simp only [List.all_cons, Bool.and_eq_true] at h
    rw [List.cons_append, upTo, if_pos h.1, upTo_all h.2, List.cons_append]
theorem upTo_self {α : Type} {c : α → Bool} {a : List α} (h : a.all c = true) : upTo c a = a := by
  have := upTo_all h []
  simpa [upTo] using this
theorem upTo_not {α : Type} {c : α → Bool} : ∀ {a : List α}, a.all c = false → ∀ b, upTo c (a ++ b) = upTo c a
  | [], h, _ => by simp at h
  | x :: a, h, b => by
    rw [List.cons_append, upTo, upTo]
    cases hx : c x
    · rfl
    · rw [List.all_cons, hx, Bool.true_and] at h
      simp only [if_true]
      rw [upTo_not h]

/-- Function f with these captured values takes pairs one after the other: 'I l' holds when it has taken l; 'fp' are the blocks that it writes. -/
structure Yld2 (f : FuncId) (caps : Array Value) (B : Nat) (c : Int × Int → Bool) (I : List (Int × Int) → World → Prop) (fp : World → Nat → Prop) : Prop where
  enter : ∀ (args : Array Value) (w : World), (callFunc f args).run Try.prog w = .ok (.enter f args) w
  keep : ∀ (l : List (Int × Int)) (w w' : World), I l w → Below w.heap.size w w' → I l w' ∧ ∀ b, fp w' b → fp w b
  fpin : ∀ (l : List (Int × Int)) (w : World) (b : Nat), I l w → fp w b → B ≤ b ∧ b < w.heap.size
  call : ∀ (l : List (Int × Int)) (w : World) (i t : Int), 0 ≤ i → i < 1073741824 → 0 ≤ t → t ≤ 3 → I l w → (l.length : Int) ≤ i →
    Calls Try.prog f (#[.int .i64 i, .int .i64 t] ++ caps) w fun e w' => e = .returned (.bool (c (i, t))) ∧ I (l ++ [(i, t)]) w' ∧ Mod (fp w) w w' ∧ ∀ b, fp w' b → fp w b ∨ w.heap.size ≤ b

/-- What holds behind a stretch of a walk that took 'l' and then 'r'. -/
structure Took (I : List (Int × Int) → World → Prop) (fp : World → Nat → Prop) (w : World) (l : List (Int × Int)) (w' : World) : Prop where
  inv : I l w'
  mod : Mod (fp w) w w'
  fps : ∀ b, fp w' b → fp w b ∨ w.heap.size ≤ b

section
variable {f : FuncId} {caps : Array Value} {B : Nat} {c : Int × Int → Bool} {I : List (Int × Int) → World → Prop} {fp : World → Nat → Prop}
theorem Took.start {w : World} {l : List (Int × Int)} (h : I l w) : Took I fp w l w := ⟨h, Mod.refl _ _, fun _ hb => .inl hb⟩
theorem Took.below (hy : Yld2 f caps B c I fp) {w w' w'' : World} {l : List (Int × Int)} (h : Took I fp w l w') (hb : Below w'.heap.size w' w'') : Took I fp w l w'' :=
  ⟨(hy.keep _ _ _ h.inv hb).1, h.mod.below_ hb, fun b hb' => h.fps b ((hy.keep _ _ _ h.inv hb).2 b hb')⟩
theorem Took.then_ {w w' w'' : World} {l l' : List (Int × Int)} (h : Took I fp w l w') (k : Took I fp w' l' w'') : Took I fp w l' w'' :=
  ⟨k.inv, h.mod.trans k.mod (fun i hi hf => (h.fps i hf).elim id fun h => absurd hi (by omega)), fun b hb => (k.fps b hb).elim (h.fps b) fun hb => .inr (Nat.le_trans h.mod.size hb)⟩
/-- Behind an allocation at the head. -/
theorem Took.head (hy : Yld2 f caps B c I fp) {w w1 w' : World} {l0 l : List (Int × Int)} (h0 : I l0 w) (hb : Below w.heap.size w w1) (k : Took I fp w1 l w') : Took I fp w l w' :=
  ((Took.start h0).below hy hb).then_ k
/-- A block that is not written stands. -/
theorem Took.block {w w' : World} {l : List (Int × Int)} (h : Took I fp w l w') {b : Nat} (hb : b < w.heap.size) (hn : ¬ fp w b) : w'.heap[b]? = w.heap[b]? := h.mod.block b hb hn
theorem Took.base (hy : Yld2 f caps B c I fp) {w0 w w' : World} {l0 l : List (Int × Int)} (hB : B = w0.heap.size) (h0 : I l0 w) (hw : Below w0.heap.size w0 w) (h : Took I fp w l w') : Below w0.heap.size w0 w' :=
  hw.trans (h.mod.below (B := w0.heap.size) hw.size fun k hk => by have := (hy.fpin _ _ _ h0 hk).1; omega)
end

theorem ents_in : ∀ (m : Nat) (x : RN) (first : Int), ∀ p ∈ ents m x first, first ≤ p.1 ∧ p.1 < first + 8 ^ (m + 1) ∧ 0 ≤ p.2 ∧ p.2 ≤ 3
  | 0, x, first, p, hp => by
    obtain ⟨d, hd, hp⟩ := List.mem_flatMap.1 hp
    have hd8 := List.mem_range.1 hd
    unfold entL at hp
    split at hp
    · cases hp
    · rw [List.mem_singleton] at hp
      subst hp
      have h0 := tagI_bound x.t0 d
      have h1 := tagI_bound x.t1 d
      have e : ((8 : Int) ^ (0 + 1)) = 8 := rfl
      rw [e]
      simp only
      omega
  | m + 1, x, first, p, hp => by
    obtain ⟨d, hd, hp⟩ := List.mem_flatMap.1 hp
    have hd8 := List.mem_range.1 hd
    split at hp
    · cases hp
    · have := ents_in m _ _ p hp
      have e : ((8 : Int) ^ (m + 1 + 1)) = 8 ^ (m + 1) * 8 := by rw [Int.pow_succ]
      have hpos : (0 : Int) < 8 ^ (m + 1) := by exact_mod_cast pow8_pos (m + 1)
      rw [e]
      have hd7 : (d : Int) ≤ 7 := by omega
      have : (d : Int) * 8 ^ (m + 1) ≤ 7 * 8 ^ (m + 1) := Int.mul_le_mul_of_nonneg_right hd7 (by omega)
      have : 0 ≤ (d : Int) * 8 ^ (m + 1) := Int.mul_nonneg (by omega) (by omega)
      omega

theorem ents_len : ∀ (m : Nat) (x : RN) (first : Int), (ents m x first).length ≤ 8 ^ (m + 1)
  | 0, x, first => by
    have h : ∀ k, ((List.range k).flatMap (entL x first)).length ≤ k := fun k => by
      induction k with
      | zero => simp
      | succ k ih =>
        rw [List.range_succ, List.flatMap_append, List.length_append]
        have : ((List.flatMap (entL x first) [k])).length ≤ 1 := by
          simp only [List.flatMap_cons, List.flatMap_nil, List.append_nil]
          unfold entL; split <;> simp
        omega
    exact h 8
  | m + 1, x, first => by
    have h : ∀ k, ((List.range k).flatMap (entD (m + 1) x first)).length ≤ k * 8 ^ (m + 1) := fun k => by
      induction k with
      | zero => simp
      | succ k ih =>
        rw [List.range_succ, List.flatMap_append, List.length_append]
        have : ((List.flatMap (entD (m + 1) x first) [k])).length ≤ 8 ^ (m + 1) := by
          simp only [List.flatMap_cons, List.flatMap_nil, List.append_nil]
          show (if absentB (x.kid k) then [] else ents m (x.kid k) (first + k * 8 ^ (m + 1))).length ≤ 8 ^ (m + 1)
          by_cases ha : absentB (x.kid k) = true
          · rw [if_pos ha]; exact Nat.zero_le _
          · rw [if_neg ha]; exact ents_len m _ _
        have e : (k + 1) * 8 ^ (m + 1) = k * 8 ^ (m + 1) + 8 ^ (m + 1) := Nat.succ_mul ..
        omega
    have h8 := h 8
    have e : (8 : Nat) ^ (m + 1 + 1) = 8 * 8 ^ (m + 1) := by rw [Nat.pow_succ, Nat.mul_comm]
    rw [e]
    exact h8
theorem entsTo_len (m : Nat) (x : RN) (first : Int) : ∀ k, (entsTo m x first k).length ≤ k * 8 ^ m
  | 0 => by simp [entsTo]
  | k + 1 => by
    rw [entsTo_succ, List.length_append, Nat.succ_mul]
    have ih := entsTo_len m x first k
    have h1 : (entD m x first k).length ≤ 8 ^ m := by
      match m with
      | 0 => show (entL x first k).length ≤ 1; unfold entL; split <;> simp
      | m + 1 =>
        show (if absentB (x.kid k) then [] else ents m (x.kid k) (first + k * 8 ^ (m + 1))).length ≤ _
        split
        · exact Nat.zero_le _
        · exact ents_len _ _ _
    omega

set_option maxRecDepth 100000 in
set_option maxHeartbeats 1000000 in
theorem p_walk_leaf {f : FuncId} {caps : Array Value} {c : Int × Int → Bool} {I : List (Int × Int) → World → Prop} {fp : World → Nat → Prop} (w0 : World) (hy : Yld2 f caps w0.heap.size c I fp)
    (x : RN) (cs : Array Value) (first : Int) (l : List (Int × Int)) (w : World) (hr : RdVals w0 cs 11 (encN x)) (hw : Below w0.heap.size w0 w) (hI : I l w) (hok : okN 0 x) (h0 : 0 ≤ first) (h1 : first + 8 ≤ 1073741824) (hl : (l.length : Int) ≤ first) :
    Calls Try.prog 104 #[.agg cs, .int .i64 1, .int .i64 first, .func (.func f) #[] caps] w fun e w' => e = .returned (.bool ((ents 0 x first).all c)) ∧ Took I fp w (l ++ upTo c (ents 0 x first)) w' := by
  obtain ⟨A, cap, rfl, hk⟩ := rdN_open hr
  have HE := hy.enter
  have HY := Lib.hid hy
  have HW := Lib.hid hw
  have HI := Lib.hid hI
  have hv : ∀ j, j < 8 → (cellsN x (.slice A x.n cap))[j]? = some (.int .i64 (x.v j)) := cellsN_v x _
  have HV := Lib.hid hv
  have HOK := Lib.hid hok
  clear hr hk hy hw hI hv hok
  go_enter Try.func104, Try.ntmps104
  go_wp2_with fail
  go_loopw [11] (fun i wr => ∃ d : Nat, d ≤ 8 ∧ i = .int .i64 d ∧ (entsTo 0 x first d).all c = true ∧ Took I fp w (l ++ entsTo 0 x first d) wr ∧ wr.heap[w.heap.size]? = some (.cells (cellsN x (.slice A x.n cap)) 26 (0, 0)) ∧ ∀ b, fp wr b → b ≠ w.heap.size) (fun i _ => 8 - (intOf i).toNat)
  case atStart =>
    have hk := HY.out.keep l w _ HI.out (below_alloc w (.cells (cellsN x (.slice A x.n cap)) 26))
    refine ⟨0, by omega, rfl, rfl, ?_, heap_alloc_new w _, fun b hb e => ?_⟩
    · have := (Took.start (fp := fp) HI.out).below HY.out (below_alloc w (.cells (cellsN x (.slice A x.n cap)) 26))
      simpa [entsTo] using this
    · have := (HY.out.fpin _ _ _ HI.out (hk.2 b hb)).2
      omega
  case round =>
    obtain ⟨d, hd, rfl, hall, ht, hb, hfp⟩ := hrel
    by_cases hlt : d < 8
    · have d0 : (0 : Int) ≤ (d : Int) := by omega
      have d8 : (d : Int) < 8 := by omega
      have cd : wr.cell? ⟨w.heap.size, d, none⟩ = some (.int .i64 (x.v d)) := by rw [cell_of_row _ _ _ _ _ _ hb]; exact HV.out d hlt
      have c8 : wr.cell? ⟨w.heap.size, 8, none⟩ = some (.int .i64 x.t0) := by rw [cell_of_row _ _ _ _ _ _ hb]; rfl
      have c9 : wr.cell? ⟨w.heap.size, 9, none⟩ = some (.int .i64 x.t1) := by rw [cell_of_row _ _ _ _ _ _ hb]; rfl
      have c9' : wr.cell? ⟨w.heap.size, 8 + 1, none⟩ = some (.int .i64 x.t1) := c9
      have htd := ht.below HY.out ((Below.refl wr.heap.size wr).drew)
      have hfd : ∀ b, fp wr.drew b → b ≠ w.heap.size := fun b hb' => hfp b ((HY.out.keep _ _ _ ht.inv ((Below.refl wr.heap.size wr).drew)).2 b hb')
      have hbd : wr.drew.heap[w.heap.size]? = some (.cells (cellsN x (.slice A x.n cap)) 26 (0, 0)) := hb
      have HTD := Lib.hid htd
      have HFD := Lib.hid hfd
      have HBD := Lib.hid hbd
      have HALL := Lib.hid hall
      have HT := Lib.hid ht
      have HB := Lib.hid hb
      have HF := Lib.hid hfp
      have hgw := lt_of_heap hb
      clear ht hb hfp htd hfd hbd hall
      by_cases hvz : x.v d = 0
      · have hv : (x.v d != 0) = false := by simp [hvz]
        go_wp2_with fail
        (refine wp_region_quiet_plus (by kernel_rfl) (by kernel_rfl) ?_; (repeat (go_big_quiet_step (fail))); refine wpQuiet_nil ?_; intro _)
        rename_i Y
        go_wp2_with fail
        have hbY : Below wr.heap.size wr (wr.plus Y) := below_plus (Below.refl _ _) (Nat.le_refl _) Y
        have he : entsTo 0 x first (d + 1) = entsTo 0 x first d := by rw [entsTo_succ, entD, entL, if_pos hvz, List.append_nil]
        exact ⟨⟨d + 1, by omega, by go_num, by rw [he]; exact HALL.out, by rw [he]; exact HT.out.below HY.out hbY, by rw [heap_plus _ _ _ hgw]; exact HB.out, fun b hb' => HF.out b ((HY.out.keep _ _ _ HT.out.inv hbY).2 b hb')⟩, by simp [intOf]; omega⟩
      · have hv : (x.v d != 0) = true := by simp [hvz]
        have b0 := tag_bits HOK.out.1.2.1 hlt
        have b1 := tag_bits HOK.out.1.2.2.1 hlt
        obtain ⟨t00, t01⟩ := tagI_bound x.t0 d
        obtain ⟨t10, t11⟩ := tagI_bound x.t1 d
        have HC := Lib.hid (HY.out.call _ wr.drew (first + d) (tagI x.t0 d + tagI x.t1 d * 2) (by omega) (by omega) (by omega) (by omega) HTD.out.inv (by
          have := entsTo_len 0 x first d
          rw [List.length_append]; push_cast; omega))
        have he : entsTo 0 x first (d + 1) = entsTo 0 x first d ++ [(first + d, tagI x.t0 d + tagI x.t1 d * 2)] := by rw [entsTo_succ, entD, entL, if_neg hvz]
        have HEE := Lib.hid he
        clear he
        cases hc : c (first + d, tagI x.t0 d + tagI x.t1 d * 2)
        all_goals
          go_wp2_with fail
          (refine wp_region_still_tail 22 (by kernel_rfl) (by kernel_rfl) ?_; simp only [World.drew_eq, plus_drew, List.take_succ_cons, List.take_zero, List.drop_succ_cons, List.drop_zero]; (repeat still_step); refine wpStill_nil ?_)
          go_wp2_with ((with_reducible refine HC.out.mono ?_); rintro e W ⟨rfl, hI', hm, hf⟩; rw [hc])
          have hT2 : Took I fp w (l ++ entsTo 0 x first (d + 1)) W := by
            rw [HEE.out, ← List.append_assoc]; exact HTD.out.then_ ⟨hI', hm, hf⟩
          first
            | (have hbl : W.heap[w.heap.size]? = some (.cells (cellsN x (.slice A x.n cap)) 26 (0, 0)) := (hm.block _ hgw (fun e => HFD.out _ e rfl)).trans HBD.out
               exact ⟨⟨d + 1, by omega, by go_num, by rw [HEE.out, List.all_append, HALL.out]; simp [hc], hT2, hbl, fun b hb' => (hf b hb').elim (HFD.out b) (fun h => by have : wr.heap.size ≤ b := h; omega)⟩, by simp [intOf]; omega⟩)
            | (go_ret
               obtain ⟨r, hr⟩ := ents_split (m := 0) (x := x) (first := first) (k := d + 1) (by omega)
               have hf1 : (entsTo 0 x first (d + 1)).all c = false := by rw [HEE.out, List.all_append]; simp [hc]
               have hu : upTo c (entsTo 0 x first (d + 1)) = entsTo 0 x first (d + 1) := by rw [HEE.out, upTo_all HALL.out]; simp [upTo, hc]
               rw [hr, upTo_not hf1, hu, List.all_append, hf1]
               exact ⟨rfl, hT2⟩)
    · obtain rfl : d = 8 := by omega
      go_wp2_with fail
      go_ret
      rw [entsTo_8] at hall ht
      rw [hall, upTo_self hall]
      exact ⟨rfl, ht⟩
end Go.Proofs.Ytcicfijpfhbcaaa
