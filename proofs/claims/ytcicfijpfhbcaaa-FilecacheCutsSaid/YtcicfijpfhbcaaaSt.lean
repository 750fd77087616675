/-
  radix.New; what radix.Set needs.
-/
import Derived.Test.YtcicfijpfhbcaaaSh
import Derived.Test.YtcicfijpfhbcaaaPh
import Derived.Laws.ResultCell
import Derived.Test.YtcicfijpfhbcaaaOr2
namespace Go.Proofs.Ytcicfijpfhbcaaa
set_option linter.unusedSimpArgs false
set_option linter.unusedVariables false
set_option linter.unusedSectionVars false
open Go.RowKit

set_option maxRecDepth 100000 in
set_option maxHeartbeats 1000000 in
theorem p_New (w : World) : Calls Try.prog 22 #[] w fun e w' => e = .returned (.agg (cellsR 0 zeroN (.slice none 0 0))) ∧ Below w.heap.size w w' := by
  go_enter Try.func22, Try.ntmps22
  go_wp2_with fail
  refine bodyPost_ret (v := .agg (cellsR 0 zeroN (.slice none 0 0))) (results_cell_row Try.results22 _ _ w.heap.size _ _ _ _ rfl (heap_alloc_here _ _ _ rfl) Try.underlying28 rfl sizeR) rfl ⟨rfl, ?_⟩
  (repeat' (first | (with_reducible exact Below.refl _ _) | (with_reducible assumption) | (with_reducible refine below_plus ?_ ?_ _) | (with_reducible refine Below.alloc ?_ ?_ _) | (with_reducible refine Below.drew ?_) | (with_reducible refine below_drewN ?_ _) | (with_reducible refine Below.setCell ?_ ?_ _) | (first | omega | (simp only [World.size_alloc, size_plus, World.size_drew, World.size_setCell] <;> omega) | (simp <;> omega)) | omega | (simp; omega)))

theorem results_tree {fn : Func} {p u : Tmp} (h : fn.results = #[.cell p 28, .tmp u]) (tmps : Array Value) (w : World) (g : Nat) (ht : Int) (y : RN) (s v : Value)
    (hp : tmps.getD p undef = .pointer (some ⟨g, 0, none⟩)) (hb : w.heap[g]? = some (.cells (cellsR ht y s) 28 (0, 0))) (hu : tmps.getD u undef = v) :
    (results fn tmps).run Try.prog w = .ok (.tuple #[.agg (cellsR ht y s), v]) w := by
  rw [results_cell_tmp h, hp, hu]
  have e := run_loadVar_cells (P := Try.prog) w ⟨g, 0, none⟩ 28 (cellsR ht y s) _ (fun j x hj => by rw [addr_add_mk, Nat.zero_add, cell_of_row _ _ _ _ _ _ hb]; simpa using hj) Try.underlying28 rfl sizeR
  simp only [asAddr, Sem.run_pure, Result.andThen_ok, e]

/-- One level more. -/
def upX (x : RN) : RN := .mk (fun _ => 0) 0 0 8 (fun k => if k.1 = 0 then x else zeroN)
def upN (x : RN) : RN := refreshN (upX x) 0
/-- The tree is raised until the index is below it. -/
def raiseL (blank : Bool) (i : Int) : Nat → Nat → RN → Nat × RN
  | 0, h, x => (h, x)
  | f + 1, h, x => if h = 0 ∨ 0 < i / 2 ^ (3 * h) then raiseL blank i f (h + 1) (if blank = true then x else upN x) else (h, x)
def raised (h : Nat) (x : RN) (i : Int) : Nat × RN := raiseL (h == 0) i (10 - h) h x
def setT (h : Nat) (x : RN) (i v : Int) : RN := updN (setLeaf v) i ((raised h x i).1 - 1) (raised h x i).2
def setN (h : Nat) (x : RN) (i v : Int) : Nat × RN := shrinkP (raised h x i).1 (setT h x i v)
def setP (ht : Int) (x : RN) (i v : Int) : Int × RN × Int :=
  if checkP ht x ≠ 0 then (0, zeroN, checkP ht x) else if i < 0 ∨ 1073741824 ≤ i then (0, zeroN, 2) else if v = 0 ∧ getP ht x i = 0 then (ht, x, 0)
  else ((setN ht.toNat x i v).1, (setN ht.toNat x i v).2, 0)
def TreePost (p : Int × RN × Int) (w : World) (e : Ending) (w' : World) : Prop :=
  ∃ s, e = .returned (.tuple #[.agg (cellsR p.1 p.2.1 s), .int .i64 p.2.2]) ∧ OwnK w' p.2.1 s (fun b => w.heap.size ≤ b) ∧ Below w.heap.size w w'

theorem kid_upX (x : RN) (i : Nat) (hi : i < 8) : (upX x).kid i = if i = 0 then x else zeroN := RN.kid_mk _ _ _ _ _ _ hi
/-- The raised node is owned. -/
theorem own_upX {w : World} {x : RN} {s : Value} {S : Nat → Prop} {G : Nat} (hb : w.heap[G]? = some (.cells (putAt zero88 0 (cellsN x s)) 26 (0, 0))) (ho : OwnK w x s S) (hS : ¬ S G) :
    OwnAt w (upX x) (.slice (some ⟨G, 0, none⟩) 8 8) (fun b => b = G ∨ S b) G 8 (putAt zero88 0 (cellsN x s)) (fun i => if i = 0 then S else fun _ => False) (fun i => if i = 0 then s else .slice none 0 0) := by
  have h11 : (cellsN x s).size = 11 := rfl
  have h88 := zero88_size
  refine ⟨by show 0 < 8; omega, Nat.le_refl _, by decide, rfl, hb, .inl rfl, (putAt_size zero88 (cellsN x s) (o := 0) (by omega)).trans h88, fun i hi j hj => ?_, fun i hi => ?_, fun i hi b hb => ?_, fun i j b hi hj hbi hbj => ?_⟩
  · have hi' : i < 8 := hi
    rw [kid_upX x i hi']
    by_cases h0 : i = 0
    · subst h0
      simp only [if_true]
      rw [Nat.zero_mul]
      exact putAt_in zero88 (cellsN x s) (o := 0) (by omega) (by omega)
    · simp only [if_neg h0]
      rw [putAt_out zero88 (cellsN x s) (by omega) (by omega)]
      exact zero88_row hi' hj
  · have hi' : i < 8 := hi
    rw [kid_upX x i hi']
    by_cases h0 : i = 0
    · subst h0; simp only [if_true]; exact ho
    · simp only [if_neg h0]; exact OwnK.none_ rfl
  · by_cases h0 : i = 0
    · subst h0
      simp only [if_true] at hb
      exact ⟨.inr hb, fun e => hS (e ▸ hb)⟩
    · simp only [if_neg h0] at hb
  · by_cases h0 : i = 0
    · by_cases h1 : j = 0
      · omega
      · simp only [if_neg h1] at hbj
    · simp only [if_neg h0] at hbi

theorem below_setRow {B : Nat} {a w : World} (h : Below B a w) {g : Nat} (hg : B ≤ g) (cs : Array Value) : Below B a (w.setRow g cs) :=
  ⟨h.os, h.tape, h.output, by simp [h.size], fun k hk => by rw [setRow_other w g k cs (by omega)]; exact h.block k hk⟩
/-- A tree laid into a block of its own. -/
theorem tree_laid {W0 W1 : World} {x : RN} {s : Value} {S : Nat → Prop} {c : Array Value} (ht : Int) (G : Nat) (hG : W1.heap[G]? = some (.cells c 28 (0, 0))) (ho : OwnK W1 x s S) (hS : ¬ S G) (h0 : W0.heap.size ≤ G) (hb : Below W0.heap.size W0 W1) :
    TreeIn (W1.setRow G (cellsR ht x s)) G ht x s S ∧ Below W0.heap.size W0 (W1.setRow G (cellsR ht x s)) :=
  ⟨⟨setRow_heap _ _ _ _ _ _ hG, ho.frame _ fun b hb _ => setRow_other _ _ _ _ (fun e => hS (e ▸ hb)), hS⟩, below_setRow hb h0 _⟩
/-- Three blocks laid ahead of what follows. -/
structure Boxes (w W : World) (c3 c5 c6 : Array Value) (t3 t5 t6 : TypeId) : Prop where
  below : Below w.heap.size w W
  size : w.heap.size + 3 ≤ W.heap.size
  b3 : W.heap[w.heap.size]? = some (.cells c3 t3 (0, 0))
  b5 : W.heap[w.heap.size + 1]? = some (.cells c5 t5 (0, 0))
  b6 : W.heap[w.heap.size + 2]? = some (.cells c6 t6 (0, 0))
theorem Boxes.start {w W : World} {c3 c5 c6 : Array Value} {t3 t5 t6 : TypeId} {X : Extra} (h : (((w.alloc (.cells c3 t3)).alloc (.cells c5 t5)).alloc (.cells c6 t6)).plus X = W) : Boxes w W c3 c5 c6 t3 t5 t6 := by
  subst h
  have e1 : (w.alloc (.cells c3 t3)).heap.size = w.heap.size + 1 := by simp
  have e2 : ((w.alloc (.cells c3 t3)).alloc (.cells c5 t5)).heap.size = w.heap.size + 2 := by simp
  have e3 : (((w.alloc (.cells c3 t3)).alloc (.cells c5 t5)).alloc (.cells c6 t6)).heap.size = w.heap.size + 3 := by simp
  have hb : Below w.heap.size w (((w.alloc (.cells c3 t3)).alloc (.cells c5 t5)).alloc (.cells c6 t6)) := ((below_alloc w _).alloc (by omega) _).alloc (by omega) _
  refine ⟨below_plus hb (by omega) X, by rw [size_plus, e3]; omega, ?_, ?_, ?_⟩
  · rw [heap_plus _ _ _ (by omega), Below.heap_alloc _ _ _ (by omega), Below.heap_alloc _ _ _ (by omega), heap_alloc_here _ _ _ rfl]
  · rw [heap_plus _ _ _ (by omega), Below.heap_alloc _ _ _ (by omega), heap_alloc_here _ _ _ e1.symm]
  · rw [heap_plus _ _ _ (by omega), heap_alloc_here _ _ _ e2.symm]
theorem Boxes.next {w W W' : World} {c3 c5 c6 : Array Value} {t3 t5 t6 : TypeId} (h : Boxes w W c3 c5 c6 t3 t5 t6) (hb : ∀ b, b < w.heap.size + 3 → W'.heap[b]? = W.heap[b]?) (hw : Below w.heap.size w W') (hs : w.heap.size + 3 ≤ W'.heap.size) : Boxes w W' c3 c5 c6 t3 t5 t6 :=
  ⟨hw, hs, (hb _ (by omega)).trans h.b3, (hb _ (by omega)).trans h.b5, (hb _ (by omega)).trans h.b6⟩
theorem Boxes.on {w W W' : World} {c3 c5 c6 : Array Value} {t3 t5 t6 : TypeId} (h : Boxes w W c3 c5 c6 t3 t5 t6) (hb : Below W.heap.size W W') : Boxes w W' c3 c5 c6 t3 t5 t6 :=
  h.next (fun b hl => hb.block b (by have := h.size; omega)) (h.below.trans (hb.mono h.below.size)) (Nat.le_trans h.size hb.size)

section
variable {P : Program} {ops : Array Oper} {Q : Exit → Act → World → Prop} {md : Region.Mode} {S : World → Prop} {z : Nat}
/-- One of two may come up. -/
theorem wpAnyF_two {i j : Nat} {o p : Oper} {fuel : Nat} {listed : Array Bool} {a : Act} {w : World} (hr : Region.ready md ops listed = [i, j]) (ho : ops[i]? = some o) (hp : ops[j]? = some p)
    (h1 : ∀ K' : Act → World → Prop, (∀ a w, (i ≠ z → S w) → wpAnyF P md ops Q S z fuel (listed.setIfInBounds i true) a w → K' a w) → if Region.wanted o (yielded ops a.tmps) = true then Oper.wp P o a w K' Q else K' (a.put o.dst undef) w)
    (h2 : ∀ K' : Act → World → Prop, (∀ a w, (j ≠ z → S w) → wpAnyF P md ops Q S z fuel (listed.setIfInBounds j true) a w → K' a w) → if Region.wanted p (yielded ops a.tmps) = true then Oper.wp P p a w K' Q else K' (a.put p.dst undef) w) :
    wpAnyF P md ops Q S z (fuel + 1) listed a w := by
  refine ⟨fun h0 => ?_, fun k hk => ?_⟩
  · rw [hr] at h0
    cases h0
  · rw [hr] at hk
    have : k = i ∨ k = j := by simpa using hk
    rcases this with rfl | rfl
    · exact wpOp_step ho (fun K' hK => h1 K' (fun a w hS hW => hK a w ⟨hS, hW⟩))
    · exact wpOp_step hp (fun K' hK => h2 K' (fun a w hS hW => hK a w ⟨hS, hW⟩))
end

/-- Where Set and mark stand: the boxed tree and value, the result, and the tree that is theirs. -/
structure SetSt (w : World) (B : Nat) (g : Nat) (h : Int) (x : RN) (s : Value) (S : Nat → Prop) (W : World) : Prop where
  below : Below w.heap.size w W
  base : w.heap.size ≤ B
  keep : ∀ b, b < B → b < W.heap.size
  tree : TreeIn W g h x s S
  g_ : B ≤ g
  S_ : ∀ b, S b → B ≤ b

section
variable {w : World} {B g : Nat} {h : Int} {x : RN} {s : Value} {S : Nat → Prop} {W W' : World}
theorem SetSt.next (t : SetSt w B g h x s S W) (hb : Below W.heap.size W W') : SetSt w B g h x s S W' :=
  ⟨t.below.trans (hb.mono t.below.size), t.base, fun b hB => Nat.lt_of_lt_of_le (t.keep b hB) hb.size, t.tree.below hb, t.g_, t.S_⟩
/-- A change within the tree. -/
theorem SetSt.turn {h' : Int} {x' : RN} {s' : Value} {S' : Nat → Prop} (t : SetSt w B g h x s S W) (hm : Mod (fun b => b = g ∨ S b) W W') (ht : TreeIn W' g h' x' s' S') (hS : ∀ b, S' b → S b ∨ W.heap.size ≤ b) : SetSt w B g h' x' s' S' W' := by
  have hB : B ≤ W.heap.size := by
    rcases Nat.eq_zero_or_pos B with h0 | h0
    · omega
    · have := t.keep (B - 1) (by omega); omega
  refine ⟨t.below.trans (hm.below (B := w.heap.size) (by have := t.base; omega) ?_), t.base, fun b hb => Nat.lt_of_lt_of_le (t.keep b hb) hm.size, ht, t.g_, fun b hb => ?_⟩
  · have := t.base
    rintro k (e | e)
    · have := t.g_; omega
    · have := t.S_ k e; omega
  · rcases hS b hb with e | e
    · exact t.S_ b e
    · omega
/-- Blocks that are not the tree's stand. -/
theorem SetSt.block (t : SetSt w B g h x s S W) (hm : Mod (fun b => b = g ∨ S b) W W') {b : Nat} (hb : b < B) : W'.heap[b]? = W.heap[b]? :=
  hm.block b (t.keep b hb) (by
    rintro (e | e)
    · have := t.g_; omega
    · have := t.S_ b e; omega)
end
theorem raiseL_go {b : Bool} {i : Int} {h : Nat} {x : RN} (hh : h < 10) (hc : h = 0 ∨ 0 < i / 2 ^ (3 * h)) : raiseL b i (10 - h) h x = raiseL b i (10 - (h + 1)) (h + 1) (if b = true then x else upN x) := by
  rw [show 10 - h = (10 - (h + 1)) + 1 by omega, raiseL, if_pos hc]
theorem raiseL_stop {b : Bool} {i : Int} {h f : Nat} {x : RN} (hc : ¬ (h = 0 ∨ 0 < i / 2 ^ (3 * h))) : raiseL b i f h x = (h, x) := by
  cases f with
  | zero => rfl
  | succ f => rw [raiseL, if_neg hc]
section
variable {w : World} {B g : Nat} {h : Int} {x : RN} {s : Value} {S : Nat → Prop} {W : World}
theorem SetSt.setH (t : SetSt w B g h x s S W) (k : Int) : SetSt w B g k x s S (W.setCell ⟨g, 0, none⟩ (.int .i64 k)) :=
  t.turn ((Mod.setCell W g 0 _).mono fun _ _ e => .inl e) (t.tree.setH k) (fun _ hb => .inl hb)
theorem Boxes.mod {W' : World} {c3 c5 c6 : Array Value} {t3 t5 t6 : TypeId} (hb : Boxes w W c3 c5 c6 t3 t5 t6) (t : SetSt w (w.heap.size + 3) g h x s S W) (hm : Mod (fun b => b = g ∨ S b) W W') : Boxes w W' c3 c5 c6 t3 t5 t6 :=
  hb.next (fun b hl => t.block hm hl) (t.below.trans (hm.below (B := w.heap.size) t.below.size (by
    rintro k (e | e)
    · have := t.g_; omega
    · have := t.S_ k e; omega))) (Nat.le_trans hb.size hm.size)
end

/-- The world in which the node above has been made. -/
structure UpW (wr W : World) (x : RN) (s : Value) : Prop where
  below : Below wr.heap.size wr W
  size : W.heap.size = wr.heap.size + 2
  b0 : W.heap[wr.heap.size]? = some (.cells (putAt zero88 0 (cellsN x s)) 26 (0, 0))
  b1 : W.heap[wr.heap.size + 1]? = some (.cells (cellsN (upX x) (.slice (some ⟨wr.heap.size, 0, none⟩) 8 8)) 26 (0, 0))
theorem UpW.start {wr W : World} {x : RN} {s : Value} {c : Array Value} (h : ((wr.alloc (.cells zero88 26)).alloc (.cells c 26)).setRow wr.heap.size (putAt zero88 0 (cellsN x s)) = W)
    (hc : c = cellsN (upX x) (.slice (some ⟨wr.heap.size, 0, none⟩) 8 8)) : UpW wr W x s := by
  subst h hc
  have e1 : (wr.alloc (.cells zero88 26)).heap.size = wr.heap.size + 1 := by simp
  refine ⟨below_setRow (((below_alloc wr _).alloc (by omega) _)) (Nat.le_refl _) _, by simp, ?_, ?_⟩
  · exact setRow_heap _ _ zero88 _ _ _ ((Below.heap_alloc _ _ _ (by omega)).trans (heap_alloc_here _ _ _ rfl))
  · rw [setRow_other _ _ _ _ (by omega)]; exact heap_alloc_here _ _ _ e1.symm
theorem UpW.k {wr W : World} {x : RN} {s : Value} (h : UpW wr W x s) {j : Nat} (hj : j < 11) : W.cell? ⟨wr.heap.size, 0 * 11 + j, none⟩ = (cellsN x s)[j]? := by
  rw [cell_of_row _ _ _ _ _ _ h.b0, Nat.zero_mul]
  exact putAt_in zero88 (cellsN x s) (o := 0) (by rw [zero88_size]; show 0 + 11 ≤ 88; omega) hj
theorem UpW.row {wr W : World} {x : RN} {s : Value} (h : UpW wr W x s) : RowPut W W (wr.heap.size + 1) 0 26 (cellsN (upX x) (.slice (some ⟨wr.heap.size, 0, none⟩) 8 8)) (cellsN (upX x) (.slice (some ⟨wr.heap.size, 0, none⟩) 8 8)) (cellsN (upX x) (.slice (some ⟨wr.heap.size, 0, none⟩) 8 8)) :=
  RowPut.start h.b1 rfl (Nat.le_refl _) fun j _ => by rw [Nat.zero_add]
theorem UpW.cells {wr W W' : World} {x : RN} {cs' : Array Value} (hp : RowPut W W' (wr.heap.size + 1) 0 26 (cellsN (upX x) (.slice (some ⟨wr.heap.size, 0, none⟩) 8 8)) (cellsN (upN x) (.slice (some ⟨wr.heap.size, 0, none⟩) 8 8)) cs') :
    ∀ j v, (cellsN (upN x) (.slice (some ⟨wr.heap.size, 0, none⟩) 8 8)).toList[j]? = some v → W'.cell? ⟨wr.heap.size + 1, 0 + j, none⟩ = some v := by
  intro j v hj
  have h1 : j < 11 := by
    rcases Nat.lt_or_ge j 11 with h2 | h2
    · exact h2
    · rw [List.getElem?_eq_none (by rw [Array.length_toList]; exact h2)] at hj; cases hj
  rw [hp.cell h1]; simpa using hj
theorem SetSt.up {w wr W W' : World} {B g : Nat} {h : Int} {x : RN} {s : Value} {S : Nat → Prop} {cs' : Array Value} (t : SetSt w B g h x s S wr) (hu : UpW wr W x s)
    (hp : RowPut W W' (wr.heap.size + 1) 0 26 (cellsN (upX x) (.slice (some ⟨wr.heap.size, 0, none⟩) 8 8)) (cellsN (upN x) (.slice (some ⟨wr.heap.size, 0, none⟩) 8 8)) cs') :
    W'.heap[g]? = some (.cells (cellsR h x s) 28 (0, 0)) ∧
    Mod (fun b => b = g ∨ S b) wr (W'.setRow g (putAt (cellsR h x s) 1 (cellsN (upN x) (.slice (some ⟨wr.heap.size, 0, none⟩) 8 8)))) ∧
    SetSt w B g h (upN x) (.slice (some ⟨wr.heap.size, 0, none⟩) 8 8) (fun b => b = wr.heap.size ∨ S b ∧ b < wr.heap.size) (W'.setRow g (putAt (cellsR h x s) 1 (cellsN (upN x) (.slice (some ⟨wr.heap.size, 0, none⟩) 8 8)))) := by
  have hgl := t.tree.lt
  have hold : ∀ b, b < wr.heap.size → W'.heap[b]? = wr.heap[b]? := fun b hb => (hp.oth b (by omega)).trans (hu.below.block b hb)
  have hg : W'.heap[g]? = some (.cells (cellsR h x s) 28 (0, 0)) := (hold g hgl).trans t.tree.blk
  have hm : Mod (fun b => b = g ∨ S b) wr (W'.setRow g (putAt (cellsR h x s) 1 (cellsN (upN x) (.slice (some ⟨wr.heap.size, 0, none⟩) 8 8)))) :=
    ⟨hp.os.trans hu.below.os, hp.tape.trans hu.below.tape, hp.output.trans hu.below.output, by simp [hp.size, hu.size], fun k hk hn => by
      rw [setRow_other _ _ _ _ (fun e => hn (.inl e))]; exact hold k hk⟩
  have ho : OwnK W' x s (fun b => S b ∧ b < wr.heap.size) := t.tree.own.frame' _ fun b _ hl => hold b hl
  have hup := own_upX (w := W') (x := x) (s := s) ((hp.oth _ (by omega)).trans hu.b0) ho (fun e => absurd e.2 (by omega))
  have hout : ¬ (g = wr.heap.size ∨ S g ∧ g < wr.heap.size) := by
    rintro (e | e)
    · omega
    · exact t.tree.out e.1
  refine ⟨hg, hm, t.turn hm ⟨by rw [setRow_heap _ g _ _ _ _ hg, putAt_R], OwnK.frame (w := W') _ (hup.own.refresh 0) fun b hb _ => setRow_other _ _ _ _ (fun e => hout (e ▸ hb)), hout⟩ ?_⟩
  rintro b (e | e)
  · exact .inr (by omega)
  · exact .inl e.1
end Go.Proofs.Ytcicfijpfhbcaaa
