/-
  radix.update.
-/
import Derived.Test.YtcicfijpfhbcaaaCh
namespace Go.Proofs.Ytcicfijpfhbcaaa
set_option linter.unusedSimpArgs false
set_option linter.unusedVariables false
set_option linter.unusedSectionVars false
open Go.RowKit

/-- The block with the cells vs from o on. -/
def putAt (cur : Array Value) (o : Nat) (vs : Array Value) : Array Value := (cur.toList.take o ++ vs.toList ++ cur.toList.drop (o + vs.toList.length)).toArray
theorem putAt_size (cur vs : Array Value) {o : Nat} (h : o + vs.size ≤ cur.size) : (putAt cur o vs).size = cur.size := by simp [putAt]; omega
theorem putAt_in (cur vs : Array Value) {o j : Nat} (h : o + vs.size ≤ cur.size) (hj : j < vs.size) : (putAt cur o vs)[o + j]? = vs[j]? := by
  unfold putAt
  have hl : (cur.toList.take o).length = o := by simp; omega
  rw [List.getElem?_toArray, List.append_assoc, List.getElem?_append_right (by omega), List.getElem?_append_left (by simp; omega), ← Array.getElem?_toList]
  congr 1
  omega
theorem putAt_out (cur vs : Array Value) {o j : Nat} (h : o + vs.size ≤ cur.size) (hj : j < o ∨ o + vs.size ≤ j) : (putAt cur o vs)[j]? = cur[j]? := by
  unfold putAt
  rw [List.getElem?_toArray, ← Array.getElem?_toList]
  rcases hj with hj | hj
  · rw [List.append_assoc, List.getElem?_append_left (by simp; omega), List.getElem?_take, if_pos hj]
  · rw [List.getElem?_append_right (by simp; omega), List.getElem?_drop]
    congr 1
    simp; omega
theorem RowPut.whole {w : World} {g o : Nat} {t : TypeId} {cur row : Array Value} (hg : w.heap[g]? = some (.cells cur t (0, 0))) (hr : row.size = 11) (hf : o + 11 ≤ cur.size) :
    RowPut w (w.setRow g (putAt cur o row)) g o t cur row (putAt cur o row) :=
  ⟨rfl, rfl, rfl, by simp, setRow_heap w g cur _ t _ hg, putAt_size cur row (by omega), hr, hf, fun j hj => putAt_in cur row (by omega) (by omega), fun j hj => putAt_out cur row (by omega) (by omega), fun q hq => setRow_other w g q _ hq⟩

theorem wpList_storeN_mid {ops : Array Oper} {rest : List Oper} {o : Oper} {a : Act} {w : World} {Q : Exit → Act → World → Prop} (x z : Operand) (ho : o.op = .store 26 x z) (hw : Region.wanted o (yielded ops a.tmps) = true)
    (g b : Nat) (hx : a.eval x = .pointer (some ⟨g, b, none⟩)) (y : RN) (A : Option Addr) (len cap : Nat) (hz : a.eval z = .agg (cellsN y (.slice A len cap))) (cur : Array Value) (t : TypeId) (hg : w.heap[g]? = some (.cells cur t (0, 0))) (hb : b + 11 ≤ cur.size)
    (h : wpList Try.prog ops Q rest (a.put o.dst undef) (w.setRow g (putAt cur b (cellsN y (.slice A len cap))))) : wpList Try.prog ops Q (o :: rest) a w := by
  refine wpList_step fun K hK => ?_
  rw [if_pos hw]
  have hs := run_storeCells_at (P := Try.prog) g b t (cellsN y (.slice A len cap)).toList 0 cur w hg (by simp [cellsN]; omega) (fun v hv => by simp [cellsN] at hv; rcases hv with rfl | rfl | rfl | rfl | rfl | rfl | rfl | rfl | rfl | rfl | rfl <;> rfl)
  have hv : (storeVar 26 ⟨g, b, none⟩ (.agg (cellsN y (.slice A len cap)))).run Try.prog w = .ok () (w.setRow g (putAt cur b (cellsN y (.slice A len cap)))) := by
    cases hq : Try.prog.info? 26 with
    | none => have := sizeN; simp [hq] at this
    | some i =>
      have hs2 : (cellsN y (.slice A len cap)).size = i.size := by have := sizeN; simp [hq] at this; rw [this]; rfl
      simp only [Nat.add_zero] at hs
      simp [storeVar, Sem.run_bind, sizeOf, typeInfo, hq, Value.cells, hs2, hs, putAt]
  unfold Oper.wp execOp
  simp only [ho, hx, hz, Instr.storeAt, Instr.sureAddr, Sem.run_bind, Sem.run_pure, Result.andThen_ok, hv]
  exact hK _ _ h

/-- The node with eight children, when it had none. -/
def grow (x : RN) : RN := if x.n = 0 then .mk x.v x.t0 x.t1 8 (fun _ => zeroN) else x
/-- A node without entries is left absent. -/
def orZero (y : RN) : RN := if emptyB y = true then zeroN else y
def updN (ch : RN → Nat → RN) (i : Int) : Nat → RN → RN
  | 0, x => ch x (digB i 1).toNat
  | m + 1, x => let d := (digB i (m + 2)).toNat; refreshN (setKid (grow x) d (orZero (updN ch i m ((grow x).kid d)))) d
/-- Each node has no children or eight. -/
def octB : Nat → RN → Prop
  | 0, _ => True
  | m + 1, x => (x.n = 0 ∨ x.n = 8) ∧ ∀ i, i < 8 → octB m (x.kid i)
theorem oct_zero : ∀ m, octB m zeroN
  | 0 => trivial
  | m + 1 => ⟨.inl rfl, fun i _ => by
      have : zeroN.kid i = zeroN := by simp [RN.kid, zeroN]
      rw [this]; exact oct_zero m⟩
theorem grow_n {x : RN} (h : x.n = 0 ∨ x.n = 8) : (grow x).n = 8 := by
  unfold grow
  rcases h with h | h
  · rw [if_pos h]; rfl
  · rw [if_neg (by omega)]; exact h
theorem grow_kid {x : RN} (h : x.n = 0 ∨ x.n = 8) {i : Nat} (hi : i < 8) : (grow x).kid i = x.kid i := by
  unfold grow
  by_cases h0 : x.n = 0
  · rw [if_pos h0, RN.kid_mk _ _ _ _ _ _ hi]
    cases x with
    | mk v t0 t1 n kid =>
      have : n = 0 := h0
      subst this
      rfl
  · rw [if_neg h0]

theorem digB_bound {i l : Int} : 0 ≤ digB i l ∧ digB i l < 8 := by unfold digB; omega

/-- What update does at one node, and what it needs. -/
structure UpPre (m : Nat) (C : Nat → Prop) (K : World → Prop) (w : World) (g o : Nat) (t : TypeId) (cs : Array Value) (x : RN) (s : Value) (S : Nat → Prop) : Prop where
  oct : octB m x
  k : K w
  apart : ∀ b, C b → b < w.heap.size ∧ b ≠ g ∧ ¬ S b
  node : NodeIn w g o t cs x s S

set_option maxRecDepth 100000 in
set_option maxHeartbeats 1000000 in
theorem p_update_leaf (f : FuncId) (caps : Array Value) (C : Nat → Prop) (K : World → Prop) (ch : RN → Nat → RN) (hch : ChOk f caps C K ch) (i : Int) (i0 : 0 ≤ i) (i1 : i < 1073741824) (x : RN) (g o : Nat) (t : TypeId) (cs : Array Value) (s : Value) (S : Nat → Prop) (w : World)
    (h : UpPre 0 C K w g o t cs x s S) :
    Calls Try.prog 74 #[.pointer (some ⟨g, o, none⟩), .int .i64 1, .int .i64 i, .func (.func f) #[] caps] w (Turned w g o t cs S (updN ch i 0 x)) := by
  have hd := digB_bound (i := i) (l := 1)
  obtain ⟨d, hdd⟩ : ∃ d : Nat, digB i 1 = d := ⟨(digB i 1).toNat, by omega⟩
  have hu : updN ch i 0 x = ch x d := by unfold updN; rw [hdd]; rfl
  rw [hu]
  have hd8 : d < 8 := by omega
  have HC := Lib.hid (hch.calls x d g o t cs s S w hd8 h.k h.apart h.node)
  have HE := hch.enter
  clear h hch hu
  go_enter Try.func74, Try.ntmps74
  go_wp2_with (first
    | (go_at_call 82; refine (p_digit i _ _ i0 i1 (by omega) (by omega)).mono ?_; rintro e w' ⟨rfl, rfl⟩; rw [hdd])
    | ((with_reducible refine HC.out.mono ?_); rintro e w' ⟨rfl, ht⟩))
  go_end0
  exact ⟨rfl, ht⟩


/-- Eight absent nodes. -/
def zero88 : Array Value := madeCells zeroCells 88
theorem zero88_size : zero88.size = 88 := size_madeCells _ _
theorem zero88_row {i j : Nat} (hi : i < 8) (hj : j < 11) : zero88[i * 11 + j]? = (cellsN zeroN (.slice none 0 0))[j]? := by
  have h1 : (i * 11 + j) % 11 = j := by omega
  have h2 : i * 11 + j < 88 := by omega
  have h3 : zeroCells.size = 11 := rfl
  have h4 : zeroCells = cellsN zeroN (.slice none 0 0) := rfl
  unfold zero88 madeCells
  rw [Array.getElem?_map, Array.getElem?_range, if_pos h2, Option.map_some, h3, h1, ← h4, Array.getElem!_eq_getD, Array.getD_eq_getD_getElem?]
  rw [Array.getElem?_eq_getElem (by rw [h3]; exact hj)]
  rfl
@[go_sem] theorem makeKids (w : World) : (Instr.makeSlice 24 (.int .i64 8) (.int .i64 8)).run Try.prog w = .ok (.slice (some ⟨w.heap.size, 0, none⟩) 8 8) (w.alloc (.cells zero88 26)) := by
  obtain ⟨i0, hi0, hz0, hz1, hz2⟩ := info_parts infoN
  have := run_make (P := Try.prog) w 24 26 i0 _ Try.underlying24 hi0 hz0 .i64 .i64 8 8 (by omega) (by omega) (by rw [hz2]; omega) (by omega)
  rw [this, hz1]
  rfl

structure AtKids (C : Nat → Prop) (K : World → Prop) (w W : World) (g o : Nat) (t : TypeId) (cs csW : Array Value) (X : RN) (S SW : Nat → Prop) (gk cap : Nat) (csk : Array Value) (T : Nat → Nat → Prop) (sk : Nat → Value) : Prop where
  node : NodeIn W g o t csW X (.slice (some ⟨gk, 0, none⟩) 8 cap) SW
  at_ : OwnAt W X (.slice (some ⟨gk, 0, none⟩) 8 cap) SW gk cap csk T sk
  n8 : X.n = 8
  mod : Mod (fun b => b = g) w W
  sub : ∀ b, SW b → S b ∨ w.heap.size ≤ b
  size : csW.size = cs.size
  out : ∀ j, j < o ∨ o + 11 ≤ j → csW[j]? = cs[j]?
  k : K W
  apart : ∀ b, C b → b < W.heap.size ∧ b ≠ g ∧ ¬ SW b

section
variable {C : Nat → Prop} {K : World → Prop} {w W : World} {g o : Nat} {t : TypeId} {cs csW : Array Value} {X : RN} {S SW : Nat → Prop} {gk cap : Nat} {csk : Array Value} {T : Nat → Nat → Prop} {sk : Nat → Value}
theorem AtKids.pre {m d : Nat} (h : AtKids C K w W g o t cs csW X S SW gk cap csk T sk) (hoct : octB m (X.kid d)) (hd : d < 8) : UpPre m C K W gk (d * 11) 26 csk (X.kid d) (sk d) (T d) := by
  have hd' : d < X.n := by rw [h.n8]; exact hd
  have hle := h.at_.le
  have hn := h.n8
  refine ⟨hoct, h.k, fun b hb => ?_, h.at_.blk, by rw [h.at_.size]; omega, h.at_.row d hd', h.at_.kid d hd', fun hT => (h.at_.sub d hd' _ hT).2 rfl⟩
  obtain ⟨h1, h2, h3⟩ := h.apart b hb
  exact ⟨h1, fun e => h3 (e ▸ h.at_.mem), fun hT => h3 (h.at_.sub d hd' b hT).1⟩
theorem AtKids.start8 {x : RN} {s : Value} {m : Nat} (h : UpPre (m + 1) C K w g o t cs x s S) (h8 : x.n = 8) (hA : OwnAt w x s S gk cap csk T sk) : AtKids C K w w g o t cs cs (grow x) S S gk cap csk T sk := by
  have hx : grow x = x := by unfold grow; rw [if_neg (by omega)]
  have hs := hA.val
  rw [h8] at hs
  subst hs
  exact ⟨by rw [hx]; exact h.node, by rw [hx]; exact hA, by rw [hx]; exact h8, Mod.refl _ _, fun b hb => .inl hb, rfl, fun _ _ => rfl, h.k, h.apart⟩
theorem AtKids.start0 {f : FuncId} {caps : Array Value} {ch : RN → Nat → RN} (hch : ChOk f caps C K ch) {x : RN} {m : Nat} (h : UpPre (m + 1) C K w g o t cs x (.slice none 0 0) S) (h0 : x.n = 0) :
    AtKids C K w ((w.setCell ⟨g, o + 10, none⟩ (.slice (some ⟨w.heap.size, 0, none⟩) 8 8)).alloc (.cells zero88 26)) g o t cs (cs.setIfInBounds (o + 10) (.slice (some ⟨w.heap.size, 0, none⟩) 8 8)) (grow x) S (fun b => b = w.heap.size)
      w.heap.size 8 zero88 (fun _ _ => False) (fun _ => .slice none 0 0) := by
  have hx : grow x = .mk x.v x.t0 x.t1 8 (fun _ => zeroN) := by unfold grow; rw [if_pos h0]
  have hgl := h.node.lt
  have hblk := h.node.blk
  have hfit := h.node.fits
  have e1 : (w.setCell ⟨g, o + 10, none⟩ (.slice (some ⟨w.heap.size, 0, none⟩) 8 8)).heap.size = w.heap.size := by simp
  have hb : ((w.setCell ⟨g, o + 10, none⟩ (.slice (some ⟨w.heap.size, 0, none⟩) 8 8)).alloc (.cells zero88 26)).heap[w.heap.size]? = some (.cells zero88 26 (0, 0)) := heap_alloc_here _ _ _ e1.symm
  have hb2 : ((w.setCell ⟨g, o + 10, none⟩ (.slice (some ⟨w.heap.size, 0, none⟩) 8 8)).alloc (.cells zero88 26)).heap[g]? = some (.cells (cs.setIfInBounds (o + 10) (.slice (some ⟨w.heap.size, 0, none⟩) 8 8)) t (0, 0)) := by
    rw [Below.heap_alloc _ _ _ (by omega)]; exact heap_setCell_same w g _ cs t _ hblk
  have hoth : ∀ b, b < w.heap.size → b ≠ g → ((w.setCell ⟨g, o + 10, none⟩ (.slice (some ⟨w.heap.size, 0, none⟩) 8 8)).alloc (.cells zero88 26)).heap[b]? = w.heap[b]? := fun b hb hn => by
    rw [Below.heap_alloc _ _ _ (by omega)]; exact heap_setCell_other w _ b _ hn
  have hat : OwnAt ((w.setCell ⟨g, o + 10, none⟩ (.slice (some ⟨w.heap.size, 0, none⟩) 8 8)).alloc (.cells zero88 26)) (.mk x.v x.t0 x.t1 8 (fun _ => zeroN)) (.slice (some ⟨w.heap.size, 0, none⟩) 8 8) (fun b => b = w.heap.size)
      w.heap.size 8 zero88 (fun _ _ => False) (fun _ => .slice none 0 0) := by
    refine ⟨by show 0 < 8; omega, Nat.le_refl _, by decide, rfl, hb, rfl, zero88_size, fun i hi j hj => ?_, fun i hi => ?_, fun _ _ _ h => h.elim, fun _ _ _ _ _ h => h.elim⟩
    · have hi' : i < 8 := hi
      rw [RN.kid_mk _ _ _ _ _ _ hi']; exact zero88_row hi' hj
    · have hi' : i < 8 := hi
      rw [RN.kid_mk _ _ _ _ _ _ hi']; exact OwnK.none_ rfl
  rw [hx]
  refine ⟨⟨hb2, by simpa using hfit, fun j hj => ?_, hat.own, by omega⟩, hat, rfl, ⟨rfl, rfl, rfl, by simp, fun b hb hn => hoth b hb hn⟩, fun b hb => .inr (by omega), by simp, fun j hj => ?_, ?_, fun b hb => ?_⟩
  · rw [Array.getElem?_setIfInBounds]
    by_cases h10 : j = 10
    · subst h10; rw [if_pos rfl, if_pos (by omega)]; rfl
    · rw [if_neg (by omega), h.node.row j hj]
      match j, hj, h10 with
      | 0, _, _ => rfl
      | 1, _, _ => rfl
      | 2, _, _ => rfl
      | 3, _, _ => rfl
      | 4, _, _ => rfl
      | 5, _, _ => rfl
      | 6, _, _ => rfl
      | 7, _, _ => rfl
      | 8, _, _ => rfl
      | 9, _, _ => rfl
      | j + 11, hj, _ => omega
  · rw [Array.getElem?_setIfInBounds, if_neg (by omega)]
  · exact hch.keep w _ (fun b hb => hoth b (h.apart b hb).1 (h.apart b hb).2.1) h.k
  · obtain ⟨h1, h2, h3⟩ := h.apart b hb
    exact ⟨by simp; omega, h2, by omega⟩

theorem Turn.below {w w' w'' : World} {g o : Nat} {t : TypeId} {cs cs' : Array Value} {S S' : Nat → Prop} {y : RN} {s' : Value} (h : Turn w w' g o t cs S y cs' s' S') (hb : Below w'.heap.size w' w'') : Turn w w'' g o t cs S y cs' s' S' :=
  ⟨h.node.below hb, h.size, h.out, h.mod.trans (G' := fun _ => False) ⟨hb.os, hb.tape, hb.output, hb.size, fun k hk _ => hb.block k hk⟩ (fun _ _ h => h.elim), h.sub⟩
theorem Turn.put {w w' w'' : World} {g o : Nat} {t : TypeId} {cs cs' cs'' : Array Value} {S S' : Nat → Prop} {y : RN} {s' : Value} (h : Turn w w' g o t cs S y cs' s' S') (hp : RowPut w' w'' g o t cs' (cellsN zeroN (.slice none 0 0)) cs'') : Turn w w'' g o t cs S zeroN cs'' (.slice none 0 0) S' :=
  ⟨hp.node (OwnK.none_ rfl) h.node.out, hp.len.trans h.size, fun j hj => (hp.out j hj).trans (h.out j hj), h.mod.trans hp.mod (fun i _ e => .inl e), h.sub⟩
theorem OwnK.refresh {w : World} {x : RN} {s : Value} {S : Nat → Prop} (h : OwnK w x s S) (d : Nat) : OwnK w (refreshN x d) s S := by
  cases x; exact h.same

/-- The node itself stands while its child turns. -/
theorem AtKids.still {d : Nat} {y : RN} {cs4 : Array Value} {s4 : Value} {S4 : Nat → Prop} {W4 : World} (h : AtKids C K w W g o t cs csW X S SW gk cap csk T sk) (hd : d < 8) (ht : Turn W W4 gk (d * 11) 26 csk (T d) y cs4 s4 S4) :
    W4.heap[g]? = some (.cells csW t (0, 0)) := by
  have hd' : d < X.n := by rw [h.n8]; exact hd
  rw [ht.mod.block g h.node.lt (fun e => ?_)]
  · exact h.node.blk
  · rcases e with e | e
    · exact h.node.out (e ▸ h.at_.mem)
    · exact h.node.out (h.at_.sub d hd' g e).1
theorem AtKids.row {d : Nat} {y : RN} {cs4 : Array Value} {s4 : Value} {S4 : Nat → Prop} {W4 : World} (h : AtKids C K w W g o t cs csW X S SW gk cap csk T sk) (hd : d < 8) (ht : Turn W W4 gk (d * 11) 26 csk (T d) y cs4 s4 S4) :
    RowPut W4 W4 g o t csW (cellsN (setKid X d y) (.slice (some ⟨gk, 0, none⟩) 8 cap)) csW :=
  RowPut.start (h.still hd ht) rfl h.node.fits (by rw [setKid_cells]; exact h.node.row)
theorem AtKids.ends {d : Nat} {y : RN} {cs4 cs5 : Array Value} {s4 : Value} {S4 : Nat → Prop} {W4 W5 : World} (h : AtKids C K w W g o t cs csW X S SW gk cap csk T sk) (hd : d < 8) (ht : Turn W W4 gk (d * 11) 26 csk (T d) y cs4 s4 S4)
    (hp : RowPut W4 W5 g o t csW (cellsN (refreshN (setKid X d y) d) (.slice (some ⟨gk, 0, none⟩) 8 cap)) cs5) : Turned w g o t cs S (refreshN (setKid X d y) d) (.returned (.tuple #[])) W5 := by
  have hd' : d < X.n := by rw [h.n8]; exact hd
  have hgl := h.node.lt
  have hA := (h.at_.setKid hd' ht.node ht.size ht.out ht.sub ht.mod).own.refresh d
  have hT := RowPut.turn hp hA (by
    rintro (e | e)
    · exact h.node.out e
    · omega)
  have hsz := h.mod.size
  refine ⟨rfl, cs5, _, _, hT.node, hT.size.trans h.size, fun j hj => (hT.out j hj).trans (h.out j hj), ?_, ?_⟩
  · refine ((h.mod.mono (G' := fun b => b = g ∨ S b) fun _ _ e => .inl e).trans ht.mod ?_).trans hp.mod ?_
    · rintro i hi (e | e)
      · subst e
        rcases h.sub _ h.at_.mem with h1 | h1
        · exact .inr h1
        · omega
      · rcases h.sub _ (h.at_.sub d hd' i e).1 with h1 | h1
        · exact .inr h1
        · omega
    · intro i _ e; exact .inl e
  · rintro b (e | e)
    · exact h.sub b e
    · exact .inr (by omega)
end

theorem p_refresh8 (x : RN) (d g o gk cap : Nat) (t : TypeId) (cs : Array Value) (w : World) (hd : d < 8) (h8 : x.n = 8)
    (h : RowPut w w g o t cs (cellsN x (.slice (some ⟨gk, 0, none⟩) 8 cap)) cs) (hg : gk ≠ g)
    (k8 : w.cell? ⟨gk, d * 11 + 8, none⟩ = some (.int .i64 (x.kid d).t0)) (k9 : w.cell? ⟨gk, d * 11 + 9, none⟩ = some (.int .i64 (x.kid d).t1)) :
    Calls Try.prog 73 #[.pointer (some ⟨g, o, none⟩), .int .i64 d] w fun e w' => e = .returned (.tuple #[]) ∧ ∃ cs', RowPut w w' g o t cs (cellsN (refreshN x d) (.slice (some ⟨gk, 0, none⟩) 8 cap)) cs' := by
  have := p_refresh x d g o gk cap t cs w hd (by omega) (by omega) (by rw [h8]; exact h) hg k8 k9
  rw [h8] at this
  exact this

set_option maxRecDepth 100000 in
set_option maxHeartbeats 1000000 in
theorem p_update_step (f : FuncId) (caps : Array Value) (C : Nat → Prop) (K : World → Prop) (ch : RN → Nat → RN) (hch : ChOk f caps C K ch) (i : Int) (i0 : 0 ≤ i) (i1 : i < 1073741824) (m : Nat) (hm : m ≤ 8)
    (IH : ∀ (x : RN) (g o : Nat) (t : TypeId) (cs : Array Value) (s : Value) (S : Nat → Prop) (w : World), UpPre m C K w g o t cs x s S →
      Calls Try.prog 74 #[.pointer (some ⟨g, o, none⟩), .int .i64 (m + 1), .int .i64 i, .func (.func f) #[] caps] w (Turned w g o t cs S (updN ch i m x)))
    (x : RN) (g o : Nat) (t : TypeId) (cs : Array Value) (s : Value) (S : Nat → Prop) (w : World)
    (h : UpPre (m + 1) C K w g o t cs x s S) :
    Calls Try.prog 74 #[.pointer (some ⟨g, o, none⟩), .int .i64 (m + 2), .int .i64 i, .func (.func f) #[] caps] w (Turned w g o t cs S (updN ch i (m + 1) x)) := by
  have hd := digB_bound (i := i) (l := m + 2)
  obtain ⟨d, hdd⟩ : ∃ d : Nat, digB i (m + 2) = d := ⟨(digB i (m + 2)).toNat, by omega⟩
  have hd8 : d < 8 := by omega
  have d0 : (0 : Int) ≤ (d : Int) := by omega
  have d8 : (d : Int) < 8 := by omega
  have HI := Lib.hid IH
  have HX := Lib.hid h
  have f10 := h.node.frozen (o + 10)
  have c10 : w.cell? ⟨g, o + 10, none⟩ = some s := h.node.cell (j := 10) (by omega)
  have hgl := h.node.lt
  have hm1 : (m : Int) + 2 - 1 = (m : Int) + 1 := by omega
  have hn8 := grow_n h.oct.1
  have HO : Hid (octB m ((grow x).kid d)) := by
    have := h.oct.2 d hd8
    rw [← grow_kid h.oct.1 hd8] at this
    exact this
  have hu : updN ch i (m + 1) x = refreshN (setKid (grow x) d (orZero (updN ch i m ((grow x).kid d)))) d := by
    simp only [updN, hdd, Int.toNat_natCast]
  rw [hu]
  clear hu IH
  cases he : emptyB (updN ch i m ((grow x).kid d))
  all_goals
    have hz : orZero (updN ch i m ((grow x).kid d)) = if emptyB (updN ch i m ((grow x).kid d)) = true then zeroN else updN ch i m ((grow x).kid d) := rfl
    rw [he] at hz
    rw [hz]
    simp only [if_true, Bool.false_eq_true, if_false]
    clear hz
    rcases OwnK_iff.1 h.node.own with ⟨h0, hs⟩ | ⟨gk, cap, csk, T, sk, hA⟩
    · subst hs
      have HA := Lib.hid (AtKids.start0 hch h h0)
      have hgk : w.heap.size ≠ g := by omega
      clear h h0
      go_enter Try.func74, Try.ntmps74
      go_wp2_with (first
        | (go_at_call 82; refine (p_digit i _ _ i0 i1 (by omega) (by omega)).mono ?_; rintro e w' ⟨rfl, rfl⟩; rw [hdd])
        | (go_at_call 74; (with_reducible refine (HI.out _ _ _ _ _ _ _ _ (HA.out.pre HO.out hd8)).mono ?_); rintro e W2 ⟨rfl, cs2, s2, S2, hT⟩
           have c2 : W2.cell? ⟨g, o + 10, none⟩ = some (.slice (some ⟨w.heap.size, 0, none⟩) 8 8) := by rw [cell_of_row _ _ _ _ _ _ (HA.out.still hd8 hT), HA.out.node.row 10 (by omega)]; rfl
           obtain ⟨A2, cap2, rfl, -⟩ := hT.node.own.slice
           have HC := Lib.hid hT.node.cells
           have HT := Lib.hid hT
           clear hT)
        | ((with_reducible refine wpList_loadN (.tmp 44) ?_ ?_ (w.heap.size) (d * 11) ?_ (updN ch i m ((grow x).kid d)) (.slice A2 (updN ch i m ((grow x).kid d)).n cap2) ?_ ?_); (with_reducible rfl); rfl; rfl; (intro j v hj; exact below_keeps (by (repeat' (first | (with_reducible exact Below.refl _ _) | (with_reducible assumption) | (with_reducible refine below_plus ?_ ?_ _) | (with_reducible refine Below.alloc ?_ ?_ _) | (with_reducible refine Below.drew ?_) | (with_reducible refine below_drewN ?_ _) | (with_reducible refine Below.setCell ?_ ?_ _) | (first | omega | (simp only [World.size_alloc, size_plus, World.size_drew, World.size_setCell] <;> omega) | (simp <;> omega)) | omega | (simp; omega)))) _ _ (HC.out j v hj)))
        | (go_at_call 100; refine (p_empty _ _ _ (rdN_shut HT.out.node.own.rd)).mono ?_; rintro e W3 ⟨rfl, hb⟩; rw [he]
           have hT3 := HT.out.below hb
           have c3 : W3.cell? ⟨g, o + 10, none⟩ = some (.slice (some ⟨w.heap.size, 0, none⟩) 8 8) := by rw [cell_of_row _ _ _ _ _ _ (HA.out.still hd8 hT3), HA.out.node.row 10 (by omega)]; rfl
           have HT3 := Lib.hid hT3
           clear hT3 HT hb HC)
        | ((with_reducible refine wpList_storeN_mid (.tmp 53) (.tmp 52) ?_ ?_ _ (d * 11) ?_ zeroN none 0 0 ?_ cs2 26 HT3.out.node.blk HT3.out.node.fits ?_); (with_reducible rfl); rfl; rfl; rfl
           have hT4 := HT3.out.put (RowPut.whole (row := cellsN zeroN (.slice none 0 0)) HT3.out.node.blk rfl HT3.out.node.fits)
           clear HT3 c3
           have HT3 := Lib.hid hT4
           clear hT4)
        | (go_at_call 73; refine (p_refresh8 (setKid (grow x) d _) d g o _ 8 t _ _ hd8 (by rw [setKid_n]; exact hn8) (HA.out.row hd8 HT3.out) hgk ?_ ?_).mono ?_
           · rw [setKid_kid _ _ _ _ (by omega), if_pos rfl]; exact HT3.out.node.cell (j := 8) (by omega)
           · rw [setKid_kid _ _ _ _ (by omega), if_pos rfl]; exact HT3.out.node.cell (j := 9) (by omega)
           rintro e W5 ⟨rfl, cs5, hp⟩))
      go_end0
      exact HA.out.ends hd8 HT3.out hp
    · have h8 : x.n = 8 := by
        rcases h.oct.1 with h1 | h1
        · exact absurd hA.pos (by omega)
        · exact h1
      have hs := hA.val
      rw [h8] at hs
      subst hs
      have HA := Lib.hid (AtKids.start8 h h8 hA)
      have hgk : gk ≠ g := fun e => h.node.out (e ▸ hA.mem)
      clear h hA
      go_enter Try.func74, Try.ntmps74
      go_wp2_with (first
        | (go_at_call 82; refine (p_digit i _ _ i0 i1 (by omega) (by omega)).mono ?_; rintro e w' ⟨rfl, rfl⟩; rw [hdd])
        | (go_at_call 74; (with_reducible refine (HI.out _ _ _ _ _ _ _ _ (HA.out.pre HO.out hd8)).mono ?_); rintro e W2 ⟨rfl, cs2, s2, S2, hT⟩
           have c2 : W2.cell? ⟨g, o + 10, none⟩ = some (.slice (some ⟨gk, 0, none⟩) 8 cap) := by rw [cell_of_row _ _ _ _ _ _ (HA.out.still hd8 hT), HA.out.node.row 10 (by omega)]; rfl
           obtain ⟨A2, cap2, rfl, -⟩ := hT.node.own.slice
           have HC := Lib.hid hT.node.cells
           have HT := Lib.hid hT
           clear hT)
        | ((with_reducible refine wpList_loadN (.tmp 44) ?_ ?_ (gk) (d * 11) ?_ (updN ch i m ((grow x).kid d)) (.slice A2 (updN ch i m ((grow x).kid d)).n cap2) ?_ ?_); (with_reducible rfl); rfl; rfl; (intro j v hj; exact below_keeps (by (repeat' (first | (with_reducible exact Below.refl _ _) | (with_reducible assumption) | (with_reducible refine below_plus ?_ ?_ _) | (with_reducible refine Below.alloc ?_ ?_ _) | (with_reducible refine Below.drew ?_) | (with_reducible refine below_drewN ?_ _) | (with_reducible refine Below.setCell ?_ ?_ _) | (first | omega | (simp only [World.size_alloc, size_plus, World.size_drew, World.size_setCell] <;> omega) | (simp <;> omega)) | omega | (simp; omega)))) _ _ (HC.out j v hj)))
        | (go_at_call 100; refine (p_empty _ _ _ (rdN_shut HT.out.node.own.rd)).mono ?_; rintro e W3 ⟨rfl, hb⟩; rw [he]
           have hT3 := HT.out.below hb
           have c3 : W3.cell? ⟨g, o + 10, none⟩ = some (.slice (some ⟨gk, 0, none⟩) 8 cap) := by rw [cell_of_row _ _ _ _ _ _ (HA.out.still hd8 hT3), HA.out.node.row 10 (by omega)]; rfl
           have HT3 := Lib.hid hT3
           clear hT3 HT hb HC)
        | ((with_reducible refine wpList_storeN_mid (.tmp 53) (.tmp 52) ?_ ?_ _ (d * 11) ?_ zeroN none 0 0 ?_ cs2 26 HT3.out.node.blk HT3.out.node.fits ?_); (with_reducible rfl); rfl; rfl; rfl
           have hT4 := HT3.out.put (RowPut.whole (row := cellsN zeroN (.slice none 0 0)) HT3.out.node.blk rfl HT3.out.node.fits)
           clear HT3 c3
           have HT3 := Lib.hid hT4
           clear hT4)
        | (go_at_call 73; refine (p_refresh8 (setKid (grow x) d _) d g o _ cap t _ _ hd8 (by rw [setKid_n]; exact hn8) (HA.out.row hd8 HT3.out) hgk ?_ ?_).mono ?_
           · rw [setKid_kid _ _ _ _ (by omega), if_pos rfl]; exact HT3.out.node.cell (j := 8) (by omega)
           · rw [setKid_kid _ _ _ _ (by omega), if_pos rfl]; exact HT3.out.node.cell (j := 9) (by omega)
           rintro e W5 ⟨rfl, cs5, hp⟩))
      go_end0
      exact HA.out.ends hd8 HT3.out hp

theorem p_update (f : FuncId) (caps : Array Value) (C : Nat → Prop) (K : World → Prop) (ch : RN → Nat → RN) (hch : ChOk f caps C K ch) (i : Int) (i0 : 0 ≤ i) (i1 : i < 1073741824) : ∀ (m : Nat), m ≤ 9 →
    ∀ (x : RN) (g o : Nat) (t : TypeId) (cs : Array Value) (s : Value) (S : Nat → Prop) (w : World), UpPre m C K w g o t cs x s S →
      Calls Try.prog 74 #[.pointer (some ⟨g, o, none⟩), .int .i64 (m + 1), .int .i64 i, .func (.func f) #[] caps] w (Turned w g o t cs S (updN ch i m x))
  | 0, _ => p_update_leaf f caps C K ch hch i i0 i1
  | m + 1, hm => by
    intro x g o t cs s S w h
    have := p_update_step f caps C K ch hch i i0 i1 m (by omega) (p_update f caps C K ch hch i i0 i1 m (by omega)) x g o t cs s S w h
    rw [show (((m + 1 : Nat) : Int) + 1) = (m : Int) + 2 by omega]
    exact this
end Go.Proofs.Ytcicfijpfhbcaaa
