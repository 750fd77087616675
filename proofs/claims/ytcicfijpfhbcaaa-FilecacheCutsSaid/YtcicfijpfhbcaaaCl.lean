/-
  radix.clone.
-/
import Derived.Test.YtcicfijpfhbcaaaRf
import Derived.Test.YtcicfijpfhbcaaaOr2
import Derived.Test.YtcicfijpfhbcaaaPc
import Derived.Deep.AppendLies
import Derived.KernelRfl
namespace Go.Proofs.Ytcicfijpfhbcaaa
set_option linter.unusedSimpArgs false
set_option linter.unusedVariables false
set_option linter.unusedSectionVars false
open Go.RowKit

/-- No node has more than eight children. -/
def slimB : RN → Prop
  | .mk _ _ _ n kid => n ≤ 8 ∧ ∀ (i : Nat) (h : i < n), slimB (kid ⟨i, h⟩)
theorem slim_n {x : RN} (h : slimB x) : x.n ≤ 8 := by cases x; rw [slimB] at h; exact h.1
theorem slim_kid {x : RN} (h : slimB x) {i : Nat} (hi : i < x.n) : slimB (x.kid i) := by
  cases x with
  | mk v t0 t1 n kid =>
    rw [slimB] at h
    have hi' : i < n := hi
    rw [RN.kid_mk v t0 t1 n kid i hi']
    exact h.2 i hi'

def zeroCells : Array Value := #[.int .i64 0, .int .i64 0, .int .i64 0, .int .i64 0, .int .i64 0, .int .i64 0, .int .i64 0, .int .i64 0, .int .i64 0, .int .i64 0, .slice none 0 0]

structure CloneInv (w : World) (x : RN) (wr : World) (k : Nat) (v : Value) (sk : Nat → Value) (T : Nat → Nat → Prop) : Prop where
  below : Below w.heap.size w wr
  size : w.heap.size + 2 ≤ wr.heap.size
  b1 : wr.heap[w.heap.size]? = some (.cells (cellsN x v) 26 (0, 0))
  b2 : wr.heap[w.heap.size + 1]? = some (.cells zeroCells 26 (0, 0))
  own : wr.ownsRow (w.heap.size + 2) 26 11 v k (flat (fun i => cellsN (x.kid i) (sk i)) k)
  kid : ∀ i, i < k → OwnK wr (x.kid i) (sk i) (T i)
  sub : ∀ i, i < k → ∀ b, T i b → w.heap.size + 2 ≤ b ∧ b < wr.heap.size ∧ v.ownBlock ≠ some b
  apart : ∀ i j b, i < k → j < k → T i b → T j b → i = j
  nil : k = 0 → v = .slice none 0 0

@[go_sem] theorem build_row (y : RN) (s : Value) : Array.foldl (fun (cs : Array Value) (x : Value × Nat) => cs.setIfInBounds x.snd x.fst)
        #[.int .i64 0, .int .i64 0, .int .i64 0, .int .i64 0, .int .i64 0, .int .i64 0, .int .i64 0, .int .i64 0, .int .i64 0, .int .i64 0, .slice none 0 0]
        (cellsN y s).zipIdx 0 11 = cellsN y s := by kernel_rfl
theorem infoN : (Try.prog.info? 26).map (fun i => (i.zero, i.size, i.bytes)) = some (some (.agg zeroCells), 11, 104) := by kernel_rfl

theorem CloneInv.ownIn {w : World} {x : RN} {wr : World} {k : Nat} {v : Value} {sk : Nat → Value} {T : Nat → Nat → Prop} (inv : CloneInv w x wr k v sk T) {q : Nat} (hq : v.ownBlock = some q) : w.heap.size + 2 ≤ q ∧ q < wr.heap.size := by
  rcases inv.own.2 with ⟨h1, _⟩ | ⟨q', cap', cur, h1, h2, h3, _⟩
  · rw [h1] at hq; cases hq
  · rw [h1] at hq
    have : q' = q := by simpa [Value.ownBlock] using hq
    subst this
    refine ⟨h2, ?_⟩
    rcases Nat.lt_or_ge q' wr.heap.size with h4 | h4
    · exact h4
    · rw [Array.getElem?_eq_none h4] at h3; cases h3

theorem CloneInv.step {w : World} {x : RN} {wr : World} {k : Nat} {v : Value} {sk : Nat → Value} {T : Nat → Nat → Prop} (inv : CloneInv w x wr k v sk T) {W1 W2 : World} {c0 c1 : Array Value} {s1 : Value}
    (hb1 : Below (wr.heap.size + 1) (wr.alloc (.cells c0 26)) W1) (hown1 : OwnK W1 (x.kid k) s1 (fun b => wr.heap.size + 1 ≤ b ∧ b < W1.heap.size))
    (hgrow : (W1.alloc (.cells c1 26)).grownBy W2 v.ownBlock) {g2 cap3 : Nat}
    (hown3 : W2.ownsRow (w.heap.size + 2) 26 11 (.slice (some ⟨g2, 0, none⟩) (k + 1) cap3) (k + 1) (flat (fun i => cellsN (x.kid i) (sk i)) k ++ (cellsN (x.kid k) s1).toList))
    (hat : v.ownBlock = some g2 ∨ g2 = W1.heap.size + 1) :
    CloneInv w x (W2.setCell ⟨w.heap.size, 10, none⟩ (.slice (some ⟨g2, 0, none⟩) (k + 1) cap3)) (k + 1) (.slice (some ⟨g2, 0, none⟩) (k + 1) cap3) (fun i => if i = k then s1 else sk i)
      (fun i => if i = k then (fun b => wr.heap.size + 1 ≤ b ∧ b < W1.heap.size) else T i) := by
  have hsz := inv.size
  have hz : wr.heap.size + 1 ≤ W1.heap.size := by have := hb1.size; simpa using this
  have hz2 : W1.heap.size + 1 ≤ W2.heap.size := by have := hgrow.size; simpa using this
  have hW1 : ∀ q, q < wr.heap.size → W1.heap[q]? = wr.heap[q]? := fun q hq => by
    rw [hb1.block q (by omega)]
    exact Below.heap_alloc _ _ _ hq
  have hW2 : ∀ q, q < W1.heap.size → v.ownBlock ≠ some q → W2.heap[q]? = W1.heap[q]? := fun q hq hn => by
    rw [hgrow.block q (by simp; omega) (fun e => hn e.symm)]
    exact Below.heap_alloc _ _ _ hq
  have hg2 : w.heap.size + 2 ≤ g2 := by
    rcases hat with h | h
    · exact (inv.ownIn h).1
    · omega
  have hv1 : v.ownBlock ≠ some w.heap.size := fun e => by have := inv.ownIn e; omega
  have hv2 : v.ownBlock ≠ some (w.heap.size + 1) := fun e => by have := inv.ownIn e; omega
  have hset : ∀ q, q ≠ w.heap.size → (W2.setCell ⟨w.heap.size, 10, none⟩ (.slice (some ⟨g2, 0, none⟩) (k + 1) cap3)).heap[q]? = W2.heap[q]? := fun q hq => heap_setCell_other W2 _ q _ hq
  have hT : ∀ i, i < k → ∀ b, T i b → b < wr.heap.size ∧ w.heap.size + 2 ≤ b ∧ v.ownBlock ≠ some b := fun i hi b hb => ⟨(inv.sub i hi b hb).2.1, (inv.sub i hi b hb).1, (inv.sub i hi b hb).2.2⟩
  refine ⟨?_, ?_, ?_, ?_, ⟨?_, ?_⟩, ?_, ?_, ?_, fun h => absurd h (by omega)⟩
  · refine ⟨hgrow.os.trans (hb1.os.trans inv.below.os), hgrow.tape.trans (hb1.tape.trans inv.below.tape), hgrow.output.trans (hb1.output.trans inv.below.output), by simp; omega, fun q hq => ?_⟩
    rw [hset q (by omega), hW2 q (by omega) (fun e => by have := inv.ownIn e; omega), hW1 q (by omega), inv.below.block q hq]
  · simp; omega
  · rw [heap_setCell_same W2 _ 10 (cellsN x v) _ _ (by rw [hW2 _ (by omega) hv1, hW1 _ (by omega)]; exact inv.b1)]
    rfl
  · rw [hset _ (by omega), hW2 _ (by omega) hv2, hW1 _ (by omega)]; exact inv.b2
  · rw [flat_length _ (fun _ => rfl)]
  · have e : flat (fun i => cellsN (x.kid i) (if i = k then s1 else sk i)) (k + 1) = flat (fun i => cellsN (x.kid i) (sk i)) k ++ (cellsN (x.kid k) s1).toList := by
      rw [flat_succ, if_pos rfl]
      congr 1
      exact flat_congr fun i hi => by rw [if_neg (by omega)]
    rw [e]
    rcases hown3.2 with ⟨h1, _⟩ | ⟨q, cap', cur, h1, h2, h3, h4⟩
    · cases h1
    · refine .inr ⟨q, cap', cur, h1, h2, ?_, h4⟩
      rw [hset q (by omega)]; exact h3
  · intro i hi
    by_cases hik : i = k
    · subst hik
      simp only [if_true]
      refine OwnK.frame _ hown1 fun b hb hl => ?_
      rw [hset b (by omega), hW2 b (by omega) (fun e => by have := inv.ownIn e; omega)]
    · simp only [if_neg hik]
      refine OwnK.frame _ (inv.kid i (by omega)) fun b hb hl => ?_
      have := hT i (by omega) b hb
      rw [hset b (by omega), hW2 b (by omega) this.2.2, hW1 b (by omega)]
  · intro i hi b hb
    by_cases hik : i = k
    · subst hik
      simp only [if_true] at hb
      refine ⟨by omega, by simp; omega, ?_⟩
      simp only [Value.ownBlock, ne_eq, Option.some.injEq]
      rcases hat with h | h
      · have := inv.ownIn h; omega
      · omega
    · simp only [if_neg hik] at hb
      have := hT i (by omega) b hb
      refine ⟨this.2.1, by simp; omega, ?_⟩
      simp only [Value.ownBlock, ne_eq, Option.some.injEq]
      rintro rfl
      rcases hat with h | h
      · exact this.2.2 h
      · omega
  · intro i j b hi hj hbi hbj
    by_cases hik : i = k <;> by_cases hjk : j = k
    · omega
    · subst hik
      simp only [if_true] at hbi
      simp only [if_neg hjk] at hbj
      have := hT j (by omega) b hbj
      omega
    · subst hjk
      simp only [if_true] at hbj
      simp only [if_neg hik] at hbi
      have := hT i (by omega) b hbi
      omega
    · simp only [if_neg hik] at hbi
      simp only [if_neg hjk] at hbj
      exact inv.apart i j b (by omega) (by omega) hbi hbj

/-- At the end the new children are owned. -/
theorem CloneInv.own_ {w : World} {x : RN} {wr : World} {v : Value} {sk : Nat → Value} {T : Nat → Nat → Prop} (inv : CloneInv w x wr x.n v sk T) : OwnK wr x v (fun b => w.heap.size + 2 ≤ b ∧ b < wr.heap.size) := by
  by_cases h0 : x.n = 0
  · rw [inv.nil h0]; exact OwnK.none_ h0
  · rcases inv.own.2 with ⟨_, h1⟩ | ⟨g, cap, cur, h1, h2, h3, h4, h5, h6, h7⟩
    · exact absurd h1 h0
    · have hg := inv.ownIn (q := g) (by rw [h1]; rfl)
      refine OwnAt.own (g := g) (cap := cap) (cs := cur) (T := T) (sk := sk) ⟨by omega, h4, h5, h1, h3, by omega, h6, fun i hi j hj => ?_, inv.kid, fun i hi b hb => ?_, inv.apart⟩
      · have := flat_get (fun i => cellsN (x.kid i) (sk i)) (fun _ => rfl) hj x.n hi
        rw [← this, ← h7, List.getElem?_take, if_pos (by omega), Array.getElem?_toList]
      · have := inv.sub i hi b hb
        refine ⟨by omega, fun e => this.2.2 ?_⟩
        rw [h1, e]; rfl

theorem run_loadN {w : World} {o : Oper} {a : Act} (x : Operand) (ho : o.op = .load 26 x) (g b : Nat) (hx : a.eval x = .pointer (some ⟨g, b, none⟩)) (y : RN) (s : Value)
    (hc : ∀ j v, (cellsN y s).toList[j]? = some v → w.cell? ⟨g, b + j, none⟩ = some v) : (execOp a.eval o).run Try.prog w = .ok (.value (.agg (cellsN y s))) w := by
  unfold execOp
  simp only [ho, hx, Instr.loadAt, Instr.sureAddr, Sem.run_bind, Sem.run_pure, Result.andThen_ok, run_loadVar_cells w ⟨g, b, none⟩ 26 (cellsN y s) _ (fun j v hj => by rw [addr_add_mk]; exact hc j v hj) Try.underlying26 rfl sizeN]

def ClonePost (x : RN) (w : World) (e : Ending) (w' : World) : Prop :=
  ∃ s, e = .returned (.agg (cellsN x s)) ∧ OwnK w' x s (fun b => w.heap.size ≤ b ∧ b < w'.heap.size) ∧ Below w.heap.size w w'

set_option maxRecDepth 100000 in
set_option maxHeartbeats 1000000 in
theorem p_clone_step (cs : Array Value) (x : RN) (w : World) (h : RdVals w cs 11 (encN x)) (h8 : x.n ≤ 8)
    (IH : ∀ (i : Nat) (cs' : Array Value) (w' : World), i < x.n → RdVals w' cs' 11 (encN (x.kid i)) → Calls Try.prog 72 #[.agg cs'] w' (ClonePost (x.kid i) w')) :
    Calls Try.prog 72 #[.agg cs] w (ClonePost x w) := by
  obtain ⟨i0, hi0, hz0, hz1, hz2⟩ := info_parts infoN
  obtain ⟨A, cap, rfl, hk⟩ := rdN_open h
  have hcap := (encK_n hk).2
  have HK := Lib.hid hk
  have HI := Lib.hid IH
  clear h hk IH
  go_enter Try.func72, Try.ntmps72
  go_wp2_with fail
  go_loopw [11] (fun i wr => ∃ (k : Nat) (v : Value) (sk : Nat → Value) (T : Nat → Nat → Prop), k ≤ x.n ∧ i = .int .i64 k ∧ CloneInv w x wr k v sk T) (fun i _ => x.n - (intOf i).toNat)
  case atStart =>
    refine ⟨0, .slice none 0 0, fun _ => undef, fun _ _ => False, by omega, rfl, ⟨by (repeat' (first | (with_reducible exact Below.refl _ _) | (with_reducible assumption) | (with_reducible refine below_plus ?_ ?_ _) | (with_reducible refine Below.alloc ?_ ?_ _) | (with_reducible refine Below.drew ?_) | (with_reducible refine below_drewN ?_ _) | (with_reducible refine Below.setCell ?_ ?_ _) | (first | omega | (simp only [World.size_alloc, size_plus, World.size_drew, World.size_setCell] <;> omega) | (simp <;> omega)) | omega | (simp; omega))), by simp, ?_, ?_, ⟨rfl, .inl ⟨rfl, rfl⟩⟩, fun i hi => absurd hi (by omega), fun i hi => absurd hi (by omega), fun i j b hi => absurd hi (by omega), fun _ => rfl⟩⟩
    · rw [heap_alloc_old _ _ (by simp), heap_alloc_new]; rfl
    · rw [heap_alloc_here _ _ _ (by simp)]; rfl
  case round =>
    obtain ⟨k, v, sk, T, hk, rfl, inv⟩ := hrel
    by_cases hlt : k < x.n
    · obtain ⟨g, b, s, rfl, hgl, hks, hvk, hck⟩ := encK_kid (i := k) HK.out hlt
      obtain ⟨A', cap2, rfl, -⟩ := hks
      have hsz := inv.size
      have HC := Lib.hid hck
      have HV := Lib.hid hvk
      have HINV := Lib.hid inv
      clear hck hvk inv
      go_wp2_with (first
        | ((with_reducible refine wpList_loadN (.tmp 13) ?_ ?_ (g) (b + k * 11) ?_ (x.kid k) (.slice A' (x.kid k).n cap2) ?_ ?_); (with_reducible rfl); rfl; rfl; (intro j v hj; exact below_keeps HINV.out.below _ _ (HC.out j v hj)))
        | ((with_reducible refine wpList_storeN_new (.tmp 5) (.tmp 14) ?_ ?_ (wr.heap.size) ?_ (x.kid k) A' (x.kid k).n cap2 ?_ ?_ ?_ ?_); (with_reducible rfl); rfl; rfl; rfl; rfl; (focus (first | omega | (simp only [World.size_alloc, size_plus, World.size_drew, World.size_setCell] <;> omega) | (simp <;> omega)))))
      simp only [Act.put]
      have hb1 := HINV.out.b1
      have c10 : wr.cell? ⟨w.heap.size, 10, none⟩ = some v := cell_of_row wr _ 10 _ _ _ hb1
      have HB1 := Lib.hid hb1
      clear hb1
      refine wp_region_F (fun W => W.cell? ⟨w.heap.size, 10, none⟩ = some v ∧ ∀ j u, (cellsN (x.kid k) (.slice A' (x.kid k).n cap2)).toList[j]? = some u → W.cell? ⟨wr.heap.size, 0 + j, none⟩ = some u) 7 (by kernel_rfl) ?_
      have keep : ∀ W : World, Below (wr.heap.size + 1) (wr.alloc (.cells (cellsN (x.kid k) (.slice A' (x.kid k).n cap2)) 26)) W →
          W.cell? ⟨w.heap.size, 10, none⟩ = some v ∧ ∀ j u, (cellsN (x.kid k) (.slice A' (x.kid k).n cap2)).toList[j]? = some u → W.cell? ⟨wr.heap.size, 0 + j, none⟩ = some u := fun W hW =>
        ⟨by rw [hW.cell (by simp; omega), World.cell?_alloc_lt _ _ _ (by simp; omega)]; exact c10, fun j u hu => by
          rw [hW.cell (by simp), Nat.zero_add, World.cell?_alloc_new]
          simpa using hu⟩
      have hS := keep (wr.alloc (.cells (cellsN (x.kid k) (.slice A' (x.kid k).n cap2)) 26)).drew ((Below.refl _ _).drew)
      refine wpAnyF_take (i := 0) (v := .pointer (some ⟨w.heap.size, 10, none⟩)) rfl (by kernel_rfl) (by kernel_rfl) (by omega) (by kernel_rfl) (by kernel_rfl) (fun _ _ _ h => h) (Or.inl ⟨by rfl, ?_⟩) hS ?_
      · intro W hW
        clear hW hS
        go_simp
      simp only [Act.put, List.setIfInBounds_toArray, List.set_cons_zero, List.set_cons_succ]
      refine wpAnyF_take (i := 1) (v := v) rfl (by kernel_rfl) (by kernel_rfl) (by omega) (by kernel_rfl) (by kernel_rfl) (fun _ _ _ h => h) (Or.inl ⟨by rfl, ?_⟩) hS ?_
      · intro W hW
        have hc := hW.1
        clear hW hS
        go_simp
      simp only [Act.put, List.setIfInBounds_toArray, List.set_cons_zero, List.set_cons_succ]
      refine wpAnyF_take (i := 2) (v := .agg (cellsN (x.kid k) (.slice A' (x.kid k).n cap2))) rfl (by kernel_rfl) (by kernel_rfl) (by omega) (by kernel_rfl) (by kernel_rfl) (fun _ _ _ h => h) (Or.inl ⟨by rfl, fun W hW => run_loadN (.tmp 5) rfl wr.heap.size 0 rfl _ _ hW.2⟩) hS ?_
      simp only [Act.put, List.setIfInBounds_toArray, List.set_cons_zero, List.set_cons_succ]
      clear hS
      refine wpAnyF_one (i := 3) (by kernel_rfl) rfl (fun K' hK => ?_)
      have HKEEP := Lib.hid keep
      have HKK := Lib.hid hK
      clear keep hK
      go_simp
      refine (HI.out k _ _ hlt ?_).mono ?_
      · exact HV.out.keep fun p u hp => below_keeps (((HINV.out.below.alloc (by omega) _).drew)) p u hp
      rintro e W1 ⟨s1, rfl, hown1, hbw1⟩
      refine HKK.out _ _ (fun _ => HKEEP.out _ (((Below.refl _ _).drew).trans (hbw1.mono (by simp)))) ?_
      clear HKK K'
      refine wpAnyF_one (i := 4) (by kernel_rfl) rfl (fun K' hK => ?_)
      have HKK := Lib.hid hK
      clear hK
      go_simp
      refine HKK.out _ _ (fun _ => HKEEP.out _ ((((Below.refl _ _).drew).trans (hbw1.mono (by simp))).alloc (by have := hbw1.size; simp at this; omega) _)) ?_
      clear HKK K'
      have hz : wr.heap.size + 1 ≤ W1.heap.size := by have := hbw1.size; simpa using this
      have hvb : ∀ q, v.ownBlock = some q → w.heap.size + 2 ≤ q ∧ q < wr.heap.size := fun q hq => by
        rcases HINV.out.own.2 with ⟨h1, _⟩ | ⟨q', cap', cur, h1, h2, h3, _⟩
        · rw [h1] at hq; cases hq
        · rw [h1] at hq
          have : q' = q := by simpa [Value.ownBlock] using hq
          subst this
          refine ⟨h2, ?_⟩
          rcases Nat.lt_or_ge q' wr.heap.size with h4 | h4
          · exact h4
          · rw [Array.getElem?_eq_none h4] at h3; cases h3
      have hW1 : ∀ q, q < wr.heap.size → W1.heap[q]? = wr.heap[q]? := fun q hq => by
        rw [hbw1.block q (by simp; omega)]
        exact Below.heap_alloc _ _ _ hq
      have hown2 : (W1.alloc (.cells (cellsN (x.kid k) s1) 26)).ownsRow (w.heap.size + 2) 26 11 v k (flat (fun i => cellsN (x.kid i) (sk i)) k) := by
        refine ⟨HINV.out.own.1, ?_⟩
        rcases HINV.out.own.2 with h1 | ⟨q, cap', cur, h1, h2, h3, h4⟩
        · exact .inl h1
        · have hq := (hvb q (by rw [h1]; rfl)).2
          exact .inr ⟨q, cap', cur, h1, h2, by rw [Below.heap_alloc _ _ _ (by omega), hW1 q hq]; exact h3, h4⟩
      obtain ⟨A1, cap1, rfl, hs1, -⟩ := hown1.slice
      refine wpAnyF_one (i := 5) (by kernel_rfl) rfl (fun K' hK => ?_)
      refine step_append_lies _ rfl (.tmp 16) (.tmp 19) _ rfl (w.heap.size + 2) 26 i0 _ 11 104 Try.underlying24 hi0 hz0 hz1 hz2 rfl (by omega) v k _ rfl hown2
        ⟨W1.heap.size, 0, none⟩ 1 1 (cellsN (x.kid k) (.slice A1 (x.kid k).n cap1)).toList rfl rfl (World.news_of_block (heap_alloc_new W1 _)) (by simp [cellsN, Value.oneCell'])
        (by omega) (by unfold maxLen; omega) (by omega) (by simp; omega) (W1.heap.size + 1) (by simp) ?_
      intro g2 cap3 W2 hown3 hgrow hat hlt2
      have hold : ∀ q, q < W1.heap.size + 1 → v.ownBlock ≠ some q → W2.heap[q]? = (W1.alloc (.cells (cellsN (x.kid k) (.slice A1 (x.kid k).n cap1)) 26)).heap[q]? := fun q hq hn => hgrow.block q (by simpa using hq) (fun e => hn e.symm)
      have hnb : ∀ q, w.heap.size + 2 ≤ q → False ∨ True := fun _ _ => .inr trivial
      have hv1 : v.ownBlock ≠ some w.heap.size := fun e => by have := hvb _ e; omega
      have hv2 : v.ownBlock ≠ some (w.heap.size + 1) := fun e => by have := hvb _ e; omega
      have hvr : v.ownBlock ≠ some wr.heap.size := fun e => by have := hvb _ e; omega
      have hS5 := HKEEP.out (W1.alloc (.cells (cellsN (x.kid k) (.slice A1 (x.kid k).n cap1)) 26)) ((((Below.refl _ _).drew).trans (hbw1.mono (by simp))).alloc (by omega) _)
      have hS6 : W2.cell? ⟨w.heap.size, 10, none⟩ = some v ∧ ∀ j u, (cellsN (x.kid k) (.slice A' (x.kid k).n cap2)).toList[j]? = some u → W2.cell? ⟨wr.heap.size, 0 + j, none⟩ = some u :=
        ⟨by rw [World.cell?_of_block (a := ⟨w.heap.size, 10, none⟩) (hold w.heap.size (by omega) hv1)]; exact hS5.1, fun j u hu => by rw [World.cell?_of_block (a := ⟨wr.heap.size, 0 + j, none⟩) (hold wr.heap.size (by omega) hvr)]; exact hS5.2 j u hu⟩
      refine hK _ _ (fun _ => hS6) ?_
      clear hK K' hS5
      simp only [Act.put, List.setIfInBounds_toArray, List.set_cons_zero, List.set_cons_succ]
      refine wpAnyF_take (i := 6) (v := .pointer (some ⟨w.heap.size, 10, none⟩)) rfl (by kernel_rfl) (by kernel_rfl) (by omega) (by kernel_rfl) (by kernel_rfl) (fun _ _ _ h => h) (Or.inl ⟨by rfl, ?_⟩) hS6 ?_
      · intro W hW
        clear hW hS6 hown3 hown2 hat
        go_simp
      simp only [Act.put, List.setIfInBounds_toArray, List.set_cons_zero, List.set_cons_succ]
      have hB1' : W2.heap[w.heap.size]? = some (.cells (cellsN x v) 26 (0, 0)) := by
        rw [hold _ (by omega) hv1, Below.heap_alloc _ _ _ (by omega), hW1 _ (by omega)]; exact HB1.out
      have hc10 : W2.cell? ⟨w.heap.size, 10, none⟩ = some v := hS6.1
      have hf10 : W2.frozen? ⟨w.heap.size, 10, none⟩ = false := frozen_of_row W2 _ 10 _ _ hB1'
      have H1 := Lib.hid hB1'
      have H2 := Lib.hid hown3
      have H3 := Lib.hid hown2
      have H4 := Lib.hid hat
      clear hS6 hB1' hown3 hown2 hat c10
      refine wpAnyF_one (i := 7) (by kernel_rfl) rfl (fun K' hK => ?_)
      have HKK := Lib.hid hK
      clear hK
      go_simp
      refine HKK.out _ _ (fun h => absurd rfl h) (wpAnyF_done (by kernel_rfl) ?_ _)
      clear HKK K'
      go_wp2_with fail
      have hown1' := hown1.mono (S' := fun b => wr.heap.size + 1 ≤ b ∧ b < W1.heap.size) (fun b hb => by simpa using hb)
      exact ⟨⟨k + 1, _, _, _, by omega, by go_num, HINV.out.step (((Below.refl _ _).drew).trans (hbw1.mono (by simp))) hown1' hgrow H2.out H4.out⟩, by simp [intOf]; omega⟩
    · obtain rfl : k = x.n := by omega
      have hown := inv.own_
      obtain ⟨A2, cap2, hv2, -⟩ := hown.slice
      subst hv2
      have hsz := inv.size
      have HINV := Lib.hid inv
      clear inv
      go_wp2_with (first
        | ((with_reducible refine wpList_loadN (.tmp 1) ?_ ?_ (w.heap.size) 0 ?_ x (.slice A2 x.n cap2) ?_ ?_); (with_reducible rfl); rfl; rfl; (intro j v hj; rw [cell_of_row wr _ _ _ _ _ HINV.out.b1, Nat.zero_add]; simpa using hj))
        | ((with_reducible refine wpList_storeN (.tmp 2) (.tmp 23) ?_ ?_ (w.heap.size + 1) ?_ x A2 x.n cap2 ?_ ?_ ?_); (with_reducible rfl); rfl; rfl; rfl; exact ⟨_, _, HINV.out.b2, rfl⟩))
      refine bodyPost_ret (v := .agg (cellsN x (.slice A2 x.n cap2))) (results_cell_row Try.results72 _ _ (w.heap.size + 1) _ _ _ _ rfl (setRow_heap wr _ _ _ _ _ HINV.out.b2) Try.underlying26 rfl sizeN) rfl ?_
      have hoth : ∀ q, q ≠ w.heap.size + 1 → (wr.setRow (w.heap.size + 1) (cellsN x (.slice A2 x.n cap2))).heap[q]? = wr.heap[q]? := fun q hq => setRow_other wr _ q _ hq
      refine ⟨_, rfl, (OwnK.frame x hown fun b hb _ => hoth b (by omega)).mono fun b hb => ⟨by omega, by simp; omega⟩, ?_⟩
      exact ⟨HINV.out.below.os, HINV.out.below.tape, HINV.out.below.output, by simp; omega, fun q hq => by rw [hoth q (by omega)]; exact HINV.out.below.block q hq⟩

/-- radix.clone, for every node whose nodes have at most eight children. -/
theorem p_clone (x : RN) : slimB x → ∀ (cs : Array Value) (w : World), RdVals w cs 11 (encN x) → Calls Try.prog 72 #[.agg cs] w (ClonePost x w) := by
  induction x with
  | mk v t0 t1 n kid ih =>
    intro hs cs w h
    refine p_clone_step cs _ w h (slim_n hs) fun i cs' w' hi a => ?_
    have hi' : i < n := hi
    have hk := slim_kid hs hi
    rw [RN.kid_mk v t0 t1 n kid i hi'] at a hk ⊢
    exact ih ⟨i, hi'⟩ hk cs' w' a
end Go.Proofs.Ytcicfijpfhbcaaa
