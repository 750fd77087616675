/-
  Where the script's law stands: a tree in its box, three lists, each in memory of its own.
-/
import Derived.Test.YtcicfijpfhbcaaaPy
import Derived.Test.YtcicfijpfhbcaaaOw
import Derived.Test.YtcicfijpfhbcaaaEs
namespace Go.Proofs.Ytcicfijpfhbcaaa
set_option linter.unusedSimpArgs false
set_option linter.unusedVariables false
set_option linter.unusedSectionVars false
open Go.RowKit

abbrev PE := Nat × Ent
def flI (p : PE) : List Value := [.int .i64 p.1]
def flV (p : PE) : List Value := [.int .i64 p.2.1]
def flT (p : PE) : List Value := [.bool p.2.2.1, .bool p.2.2.2]
theorem flI_len (p : PE) : (flI p).length = 1 := rfl
theorem flV_len (p : PE) : (flV p).length = 1 := rfl
theorem flT_len (p : PE) : (flT p).length = 2 := rfl
/-- Blocks from a world's end on belong to c. -/
def newp (c : Nat) (w : World) (p : Nat → Nat) : Nat → Nat := fun b => if w.heap.size ≤ b then c else p b
theorem newp_old {c : Nat} {w : World} {p : Nat → Nat} {b : Nat} (h : b < w.heap.size) : newp c w p b = p b := if_neg (by omega)
theorem newp_new {c : Nat} {w : World} {p : Nat → Nat} {b : Nat} (h : w.heap.size ≤ b) : newp c w p b = c := if_pos h

structure Stage (w : World) (g : Nat) (t : Nat × RN) (A : Option Addr) (cap : Nat) (S : Nat → Prop) (li lv lt : List PE) (vi vv vt : Value) (p : Nat → Nat) (wr : World) : Prop where
  tree : TreeIn wr g t.1 t.2 (.slice A t.2.n cap) S
  below : Below w.heap.size w wr
  i : OwnG 3 1 flI wr w.heap.size li vi
  v : OwnG 3 1 flV wr w.heap.size lv vv
  t : OwnG 49 2 flT wr w.heap.size lt vt
  g_ : w.heap.size ≤ g
  pi : ∀ b, vi.ownBlock = some b → p b = 1
  pv : ∀ b, vv.ownBlock = some b → p b = 2
  pt : ∀ b, vt.ownBlock = some b → p b = 3
  pS : ∀ b, S b → p b = 4 ∧ b < wr.heap.size
  pg : p g = 5

section
variable {w wr W : World} {g : Nat} {t u : Nat × RN} {A B : Option Addr} {cap c : Nat} {S : Nat → Prop} {li lv lt l' : List PE} {vi vv vt v' : Value} {p : Nat → Nat}
theorem Stage.one (h : Stage w g t A cap S li lv lt vi vv vt p wr) : OneT w g t A cap S wr := ⟨h.tree, h.below, h.g_⟩
theorem Stage.stay (h : Stage w g t A cap S li lv lt vi vv vt p wr) (hb : Below wr.heap.size wr W) : Stage w g t A cap S li lv lt vi vv vt p W :=
  ⟨h.tree.below hb, h.below.trans (hb.mono h.below.size), h.i.below hb, h.v.below hb, h.t.below hb, h.g_, h.pi, h.pv, h.pt, fun b hb' => ⟨(h.pS b hb').1, Nat.lt_of_lt_of_le (h.pS b hb').2 hb.size⟩, h.pg⟩
theorem TreeIn.far {ht : Int} {x : RN} {s : Value} (h : TreeIn wr g ht x s S) (hg : W.heap[g]? = wr.heap[g]?) (hS : ∀ b, S b → b < wr.heap.size → W.heap[b]? = wr.heap[b]?) : TreeIn W g ht x s S :=
  ⟨by rw [hg]; exact h.blk, h.own.frame _ hS, h.out⟩
theorem Stage.appI (h : Stage w g t A cap S li lv lt vi vv vt p wr) (ha : AppG 3 1 flI wr W w.heap.size l' vi v') : Stage w g t A cap S l' lv lt v' vv vt (newp 1 wr p) W := by
  have hne : ∀ b, p b ≠ 1 → vi.ownBlock ≠ some b := fun b hb e => hb (h.pi b e)
  have hgl := h.tree.lt
  refine ⟨h.tree.far (ha.far g hgl (hne g (by rw [h.pg]; decide))) (fun b hb hl => ha.far b hl (hne b (by rw [(h.pS b hb).1]; decide))), h.below.trans ha.below, ha.own, h.v.keep fun q hq hl => ha.far q hl (hne q (by rw [h.pv q hq]; decide)), h.t.keep fun q hq hl => ha.far q hl (hne q (by rw [h.pt q hq]; decide)), h.g_, fun b hb => ?_, fun b hb => ?_, fun b hb => ?_, fun b hb => ?_, ?_⟩
  · rcases ha.lies b hb with e | e
    · rw [newp_old (h.i.lt b e)]; exact h.pi b e
    · exact newp_new e
  · rw [newp_old (h.v.lt b hb)]; exact h.pv b hb
  · rw [newp_old (h.t.lt b hb)]; exact h.pt b hb
  · have := h.pS b hb
    have hs := ha.below.size
    rw [newp_old this.2]; exact ⟨this.1, by omega⟩
  · rw [newp_old hgl]; exact h.pg
theorem Stage.appV (h : Stage w g t A cap S li lv lt vi vv vt p wr) (ha : AppG 3 1 flV wr W w.heap.size l' vv v') : Stage w g t A cap S li l' lt vi v' vt (newp 2 wr p) W := by
  have hne : ∀ b, p b ≠ 2 → vv.ownBlock ≠ some b := fun b hb e => hb (h.pv b e)
  have hgl := h.tree.lt
  refine ⟨h.tree.far (ha.far g hgl (hne g (by rw [h.pg]; decide))) (fun b hb hl => ha.far b hl (hne b (by rw [(h.pS b hb).1]; decide))), h.below.trans ha.below, h.i.keep fun q hq hl => ha.far q hl (hne q (by rw [h.pi q hq]; decide)), ha.own, h.t.keep fun q hq hl => ha.far q hl (hne q (by rw [h.pt q hq]; decide)), h.g_, fun b hb => ?_, fun b hb => ?_, fun b hb => ?_, fun b hb => ?_, ?_⟩
  · rw [newp_old (h.i.lt b hb)]; exact h.pi b hb
  · rcases ha.lies b hb with e | e
    · rw [newp_old (h.v.lt b e)]; exact h.pv b e
    · exact newp_new e
  · rw [newp_old (h.t.lt b hb)]; exact h.pt b hb
  · have := h.pS b hb
    have hs := ha.below.size
    rw [newp_old this.2]; exact ⟨this.1, by omega⟩
  · rw [newp_old hgl]; exact h.pg
theorem Stage.appT (h : Stage w g t A cap S li lv lt vi vv vt p wr) (ha : AppG 49 2 flT wr W w.heap.size l' vt v') : Stage w g t A cap S li lv l' vi vv v' (newp 3 wr p) W := by
  have hne : ∀ b, p b ≠ 3 → vt.ownBlock ≠ some b := fun b hb e => hb (h.pt b e)
  have hgl := h.tree.lt
  refine ⟨h.tree.far (ha.far g hgl (hne g (by rw [h.pg]; decide))) (fun b hb hl => ha.far b hl (hne b (by rw [(h.pS b hb).1]; decide))), h.below.trans ha.below, h.i.keep fun q hq hl => ha.far q hl (hne q (by rw [h.pi q hq]; decide)), h.v.keep fun q hq hl => ha.far q hl (hne q (by rw [h.pv q hq]; decide)), ha.own, h.g_, fun b hb => ?_, fun b hb => ?_, fun b hb => ?_, fun b hb => ?_, ?_⟩
  · rw [newp_old (h.i.lt b hb)]; exact h.pi b hb
  · rw [newp_old (h.v.lt b hb)]; exact h.pv b hb
  · rcases ha.lies b hb with e | e
    · rw [newp_old (h.t.lt b e)]; exact h.pt b e
    · exact newp_new e
  · have := h.pS b hb
    have hs := ha.below.size
    rw [newp_old this.2]; exact ⟨this.1, by omega⟩
  · rw [newp_old hgl]; exact h.pg
/-- One block alone turns, in place. -/
structure Turns (q : Nat) (wr W : World) : Prop where
  os : W.os = wr.os
  tape : W.tape = wr.tape
  output : W.output = wr.output
  size : W.heap.size = wr.heap.size
  far : ∀ b, b ≠ q → W.heap[b]? = wr.heap[b]?
theorem Turns.setCell (wr : World) (q j : Nat) (x : Value) : Turns q wr (wr.setCell ⟨q, j, none⟩ x) := ⟨rfl, rfl, rfl, by simp, fun b hb => heap_setCell_other _ _ _ _ hb⟩
theorem Turns.setRow (wr : World) (q : Nat) (x : Array Value) : Turns q wr (wr.setRow q x) := ⟨rfl, rfl, rfl, by simp, fun b hb => setRow_other _ _ _ _ hb⟩
theorem Turns.below {q base : Nat} (h : Turns q wr W) (hq : base ≤ q) : Below base wr W := ⟨h.os, h.tape, h.output, by rw [h.size]; exact Nat.le_refl _, fun k hk => h.far k (by omega)⟩
theorem Stage.putV {q : Nat} (h : Stage w g t A cap S li lv lt vi vv vt p wr) (hq : vv.ownBlock = some q) (ht : Turns q wr W) (ho : OwnG 3 1 flV W w.heap.size l' vv) : Stage w g t A cap S li l' lt vi vv vt p W := by
  have hne : ∀ b, p b ≠ 2 → b ≠ q := fun b hb e => hb (h.pv b (by rw [e]; exact hq))
  exact ⟨h.tree.far (ht.far g (hne g (by rw [h.pg]; decide))) (fun b hb hl => ht.far b (hne b (by rw [(h.pS b hb).1]; decide))), h.below.trans (ht.below (h.v.base_ q hq)), h.i.keep fun b hb hl => ht.far b (hne b (by rw [h.pi b hb]; decide)), ho, h.t.keep fun b hb hl => ht.far b (hne b (by rw [h.pt b hb]; decide)), h.g_, h.pi, h.pv, h.pt, fun b hb => by rw [ht.size]; exact h.pS b hb, h.pg⟩
theorem Stage.putT {q : Nat} (h : Stage w g t A cap S li lv lt vi vv vt p wr) (hq : vt.ownBlock = some q) (ht : Turns q wr W) (ho : OwnG 49 2 flT W w.heap.size l' vt) : Stage w g t A cap S li lv l' vi vv vt p W := by
  have hne : ∀ b, p b ≠ 3 → b ≠ q := fun b hb e => hb (h.pt b (by rw [e]; exact hq))
  exact ⟨h.tree.far (ht.far g (hne g (by rw [h.pg]; decide))) (fun b hb hl => ht.far b (hne b (by rw [(h.pS b hb).1]; decide))), h.below.trans (ht.below (h.t.base_ q hq)), h.i.keep fun b hb hl => ht.far b (hne b (by rw [h.pi b hb]; decide)), h.v.keep fun b hb hl => ht.far b (hne b (by rw [h.pv b hb]; decide)), ho, h.g_, h.pi, h.pv, h.pt, fun b hb => by rw [ht.size]; exact h.pS b hb, h.pg⟩
/-- The tree's box is laid anew, with a tree in new blocks. -/
theorem Stage.store (h : Stage w g t A cap S li lv lt vi vv vt p wr) (hb : Below wr.heap.size wr W) (ho : OwnK W u.2 (.slice B u.2.n c) (fun b => wr.heap.size ≤ b)) :
    Stage w g u B c (fun b => wr.heap.size ≤ b ∧ b < W.heap.size) li lv lt vi vv vt (newp 4 wr p) (W.setRow g (cellsR u.1 u.2 (.slice B u.2.n c))) := by
  have hgl := h.tree.lt
  have h1 := h.stay hb
  have hT := Turns.setRow W g (cellsR u.1 u.2 (.slice B u.2.n c))
  have hgW : g < W.heap.size := Nat.lt_of_lt_of_le hgl hb.size
  have hne : ∀ b, p b ≠ 5 → b ≠ g := fun b hb e => hb (by rw [e]; exact h.pg)
  refine ⟨⟨setRow_heap _ _ _ _ _ _ h1.tree.blk, OwnK.frame _ (OwnK.frame' _ ho fun b _ _ => rfl) fun b hb' _ => hT.far b (by have := hb'.1; omega), fun hh => by have := hh.1; omega⟩, h1.below.trans (hT.below h.g_), h1.i.keep fun b hb' _ => hT.far b (hne b (by rw [h.pi b hb']; decide)), h1.v.keep fun b hb' _ => hT.far b (hne b (by rw [h.pv b hb']; decide)), h1.t.keep fun b hb' _ => hT.far b (hne b (by rw [h.pt b hb']; decide)), h.g_, fun b hb' => ?_, fun b hb' => ?_, fun b hb' => ?_, fun b hb' => ⟨newp_new hb'.1, by rw [size_setRow]; exact hb'.2⟩, ?_⟩
  · rw [newp_old (h.i.lt b hb')]; exact h.pi b hb'
  · rw [newp_old (h.v.lt b hb')]; exact h.pv b hb'
  · rw [newp_old (h.t.lt b hb')]; exact h.pt b hb'
  · rw [newp_old hgl]; exact h.pg
end
section
variable {w wr W : World} {g : Nat} {t u : Nat × RN} {A B : Option Addr} {cap c : Nat} {S : Nat → Prop} {li lv lt l' : List PE} {vi vv vt v' : Value} {p : Nat → Nat}
/-- Blocks that are new and none's. -/
theorem Stage.box (h : Stage w g t A cap S li lv lt vi vv vt p wr) (hb : Below wr.heap.size wr W) : Stage w g t A cap S li lv lt vi vv vt (newp 6 wr p) W := by
  have h1 := h.stay hb
  exact ⟨h1.tree, h1.below, h1.i, h1.v, h1.t, h.g_, fun b hb' => by rw [newp_old (h.i.lt b hb')]; exact h.pi b hb', fun b hb' => by rw [newp_old (h.v.lt b hb')]; exact h.pv b hb', fun b hb' => by rw [newp_old (h.t.lt b hb')]; exact h.pt b hb', fun b hb' => ⟨by rw [newp_old (h.pS b hb').2]; exact (h.pS b hb').1, (h1.pS b hb').2⟩, by rw [newp_old h.tree.lt]; exact h.pg⟩
theorem OwnG.same {τ : TypeId} {n : Nat} {fl : PE → List Value} {base : Nat} {l : List PE} {k : Nat} {a a' : PE} {v : Value} (h : OwnG τ n fl w base l v) (hk : l[k]? = some a) (he : fl a' = fl a) : OwnG τ n fl w base (l.set k a') v := by
  have e : (l.set k a').flatMap fl = l.flatMap fl := by
    rw [List.flatMap_def, List.flatMap_def]
    congr 1
    refine List.ext_getElem? fun m => ?_
    rw [List.getElem?_map, List.getElem?_map, List.getElem?_set]
    by_cases hm : k = m
    · subst hm
      rw [if_pos rfl, hk, if_pos (List.getElem?_eq_some_iff.1 hk).1]
      exact congrArg some he
    · rw [if_neg hm]
  unfold OwnG at h ⊢
  rw [List.length_set, e]
  exact h
/-- The same, with the box of an operation. -/
structure St6 (w : World) (g : Nat) (t : Nat × RN) (A : Option Addr) (cap : Nat) (S : Nat → Prop) (li lv lt : List PE) (vi vv vt : Value) (gx : Nat) (o : Obj) (wr : World) : Prop where
  p : ∃ p, Stage w g t A cap S li lv lt vi vv vt p wr ∧ p gx = 6
  x : wr.heap[gx]? = some o
theorem St6.size {gx : Nat} {o : Obj} (h : St6 w g t A cap S li lv lt vi vv vt gx o wr) : w.heap.size ≤ wr.heap.size := by obtain ⟨p, hs, -⟩ := h.p; exact hs.below.size
theorem St6.stay {gx : Nat} {o : Obj} (h : St6 w g t A cap S li lv lt vi vv vt gx o wr) (hb : Below wr.heap.size wr W) : St6 w g t A cap S li lv lt vi vv vt gx o W := by
  obtain ⟨p, hs, h6⟩ := h.p
  exact ⟨⟨p, hs.stay hb, h6⟩, (hb.block _ (lt_of_heap h.x)).trans h.x⟩
theorem St6.oi {gx : Nat} {o : Obj} (h : St6 w g t A cap S li lv lt vi vv vt gx o wr) : OwnG 3 1 flI wr w.heap.size li vi := by obtain ⟨p, hs, -⟩ := h.p; exact hs.i
theorem St6.ov {gx : Nat} {o : Obj} (h : St6 w g t A cap S li lv lt vi vv vt gx o wr) : OwnG 3 1 flV wr w.heap.size lv vv := by obtain ⟨p, hs, -⟩ := h.p; exact hs.v
theorem St6.ot {gx : Nat} {o : Obj} (h : St6 w g t A cap S li lv lt vi vv vt gx o wr) : OwnG 49 2 flT wr w.heap.size lt vt := by obtain ⟨p, hs, -⟩ := h.p; exact hs.t
theorem St6.appI {gx : Nat} {o : Obj} (h : St6 w g t A cap S li lv lt vi vv vt gx o wr) {b : Obj} (ha : AppG 3 1 flI (wr.alloc b) W w.heap.size l' vi v') : St6 w g t A cap S l' lv lt v' vv vt gx o W := by
  obtain ⟨p, hs, h6⟩ := (h.stay (below_alloc wr b)).p
  have hx := (h.stay (below_alloc wr b)).x
  exact ⟨⟨_, hs.appI ha, (newp_old (lt_of_heap hx)).trans h6⟩, (ha.far _ (lt_of_heap hx) fun e => by have := hs.pi _ e; omega).trans hx⟩
theorem St6.appV {gx : Nat} {o : Obj} (h : St6 w g t A cap S li lv lt vi vv vt gx o wr) {b : Obj} (ha : AppG 3 1 flV (wr.alloc b) W w.heap.size l' vv v') : St6 w g t A cap S li l' lt vi v' vt gx o W := by
  obtain ⟨p, hs, h6⟩ := (h.stay (below_alloc wr b)).p
  have hx := (h.stay (below_alloc wr b)).x
  exact ⟨⟨_, hs.appV ha, (newp_old (lt_of_heap hx)).trans h6⟩, (ha.far _ (lt_of_heap hx) fun e => by have := hs.pv _ e; omega).trans hx⟩
theorem St6.appT {gx : Nat} {o : Obj} (h : St6 w g t A cap S li lv lt vi vv vt gx o wr) {b : Obj} (ha : AppG 49 2 flT (wr.alloc b) W w.heap.size l' vt v') : St6 w g t A cap S li lv l' vi vv v' gx o W := by
  obtain ⟨p, hs, h6⟩ := (h.stay (below_alloc wr b)).p
  have hx := (h.stay (below_alloc wr b)).x
  exact ⟨⟨_, hs.appT ha, (newp_old (lt_of_heap hx)).trans h6⟩, (ha.far _ (lt_of_heap hx) fun e => by have := hs.pt _ e; omega).trans hx⟩
theorem St6.store {gx : Nat} {o : Obj} (h : St6 w g t A cap S li lv lt vi vv vt gx o wr) (hb : Below wr.heap.size wr W) (ho : OwnK W u.2 (.slice B u.2.n c) (fun b => wr.heap.size ≤ b)) :
    ∃ S', St6 w g u B c S' li lv lt vi vv vt gx o (W.setRow g (cellsR u.1 u.2 (.slice B u.2.n c))) := by
  obtain ⟨p, hs, h6⟩ := h.p
  have hl := lt_of_heap h.x
  exact ⟨_, ⟨_, hs.store hb ho, (newp_old hl).trans h6⟩, (setRow_other _ _ _ _ (fun e => by have := hs.pg; rw [e] at h6; omega)).trans ((hb.block _ hl).trans h.x)⟩
theorem St6.ne {gx gv len cv gt len' ct : Nat} {o : Obj} (h : St6 w g t A cap S li lv lt vi (.slice (some ⟨gv, 0, none⟩) len cv) (.slice (some ⟨gt, 0, none⟩) len' ct) gx o wr) : gt ≠ gv := by
  obtain ⟨p, hs, -⟩ := h.p
  have h1 := hs.pv gv rfl
  have h2 := hs.pt gt rfl
  intro e
  rw [e] at h2; omega
theorem St6.tree {gx : Nat} {o : Obj} (h : St6 w g t A cap S li lv lt vi vv vt gx o wr) : TreeIn wr g t.1 t.2 (.slice A t.2.n cap) S := by obtain ⟨p, hs, -⟩ := h.p; exact hs.tree
/-- What a round leaves. -/
def Left (w : World) (g : Nat) (n : Nat) (vi vv vt : Value) (W : World) : Prop :=
  ∃ (t : Nat × RN) (A : Option Addr) (cap : Nat) (S : Nat → Prop) (L : List PE) (p : Nat → Nat), L.length ≤ n ∧ Sim t L ∧ Stage w g t A cap S L L L vi vv vt p W
theorem St6.endTag {gx : Nat} {o : Obj} {L : List PE} {gt len ct n kk ix q : Nat} {on : Bool} {e : Ent} (h : St6 w g u A cap S L L L vi vv (.slice (some ⟨gt, 0, none⟩) len ct) gx o W) (hk : L[kk]? = some (ix, e)) (hq : q < 2) (hL : L.length ≤ n) (hs : Sim t L)
    (hu : okT u.1 u.2 ∧ ∀ j, tl u.1 u.2 j = if j = ix then markE q on e else tl t.1 t.2 j) : Left w g n vi vv (.slice (some ⟨gt, 0, none⟩) len ct) (W.setCell ⟨gt, kk * 2 + q, none⟩ (.bool on)) := by
  obtain ⟨p, hst, -⟩ := h.p
  obtain ⟨-, -, -, h5⟩ := hst.t.at' flT_len hk
  have ho := h5 q (ix, markE q on e) (.bool on) hq (by
    have : q = 0 ∨ q = 1 := by omega
    rcases this with rfl | rfl <;> rfl)
  have h1 := hst.putT rfl (Turns.setCell W gt (kk * 2 + q) (.bool on)) ho
  exact ⟨u, A, cap, S, L.set kk (ix, markE q on e), p, by rw [List.length_set]; exact hL, hs.set hk hu.1 hu.2, { h1 with i := h1.i.same hk rfl, v := h1.v.same hk (congrArg (fun z => [Value.int .i64 z]) (markY_v q on e)) }⟩
theorem St6.endSet {gx : Nat} {o : Obj} {L : List PE} {gv len ct n kk ix : Nat} {m : Int} {e : Ent} (h : St6 w g u A cap S L L L vi (.slice (some ⟨gv, 0, none⟩) len ct) vt gx o W) (hk : L[kk]? = some (ix, e)) (hL : L.length ≤ n) (hs : Sim t L) (hm : m ≠ 0)
    (hu : okT u.1 u.2 ∧ ∀ j, tl u.1 u.2 j = if j = ix then setE m e else tl t.1 t.2 j) : Left w g n vi (.slice (some ⟨gv, 0, none⟩) len ct) vt (W.setCell ⟨gv, kk, none⟩ (.int .i64 m)) := by
  obtain ⟨p, hst, -⟩ := h.p
  obtain ⟨-, -, -, h5⟩ := hst.v.at' flV_len hk
  have he : setE m e = (m, e.2) := if_neg hm
  have ho := h5 0 (ix, setE m e) (.int .i64 m) (by omega) (by rw [he]; rfl)
  rw [Nat.mul_one, Nat.add_zero] at ho
  have h1 := hst.putV rfl (Turns.setCell W gv kk (.int .i64 m)) ho
  exact ⟨u, A, cap, S, L.set kk (ix, setE m e), p, by rw [List.length_set]; exact hL, hs.set hk hu.1 hu.2, { h1 with i := h1.i.same hk rfl, t := h1.t.same hk (by rw [he]; rfl) }⟩
theorem St6.endDel {gx : Nat} {o : Obj} {L : List PE} {gv len ct gt len' ct' n kk ix : Nat} {e : Ent} (h : St6 w g u A cap S L L L vi (.slice (some ⟨gv, 0, none⟩) len ct) (.slice (some ⟨gt, 0, none⟩) len' ct') gx o W) (hk : L[kk]? = some (ix, e)) (hL : L.length ≤ n) (hs : Sim t L)
    (hu : okT u.1 u.2 ∧ ∀ j, tl u.1 u.2 j = if j = ix then setE 0 e else tl t.1 t.2 j) :
    Left w g n vi (.slice (some ⟨gv, 0, none⟩) len ct) (.slice (some ⟨gt, 0, none⟩) len' ct') (((W.setCell ⟨gv, kk, none⟩ (.int .i64 0)).setCell ⟨gt, kk * 2, none⟩ (.bool false)).setCell ⟨gt, kk * 2 + 1, none⟩ (.bool false)) := by
  obtain ⟨p, hst, -⟩ := h.p
  have he : setE 0 e = e0 := if_pos rfl
  obtain ⟨-, -, -, h5⟩ := hst.v.at' flV_len hk
  have ho := h5 0 (ix, e0) (.int .i64 0) (by omega) rfl
  rw [Nat.mul_one, Nat.add_zero] at ho
  have h1 := hst.putV rfl (Turns.setCell W gv kk (.int .i64 0)) ho
  obtain ⟨-, -, -, h6⟩ := h1.t.at' flT_len hk
  have ho2 := h6 0 (ix, e.1, false, e.2.2) (.bool false) (by omega) rfl
  rw [Nat.add_zero] at ho2
  have h2 := h1.putT rfl (Turns.setCell _ gt (kk * 2) (.bool false)) ho2
  have hk2 : (L.set kk (ix, e.1, false, e.2.2))[kk]? = some (ix, e.1, false, e.2.2) := by rw [List.getElem?_set_self (List.getElem?_eq_some_iff.1 hk).1]
  obtain ⟨-, -, -, h7⟩ := h2.t.at' flT_len hk2
  have ho3 := h7 1 (ix, e0) (.bool false) (by omega) rfl
  rw [List.set_set] at ho3
  have h3 := h2.putT rfl (Turns.setCell _ gt (kk * 2 + 1) (.bool false)) ho3
  exact ⟨u, A, cap, S, L.set kk (ix, setE 0 e), p, by rw [List.length_set]; exact hL, hs.set hk hu.1 hu.2, by rw [he]; exact { h3 with i := h3.i.same hk rfl }⟩
theorem St6.endNo {gx : Nat} {o : Obj} {L : List PE} {n : Nat} (h : St6 w g t A cap S L L L vi vv vt gx o W) (hL : L.length ≤ n) (hs : Sim t L) : Left w g n vi vv vt W := by
  obtain ⟨p, hst, -⟩ := h.p
  exact ⟨t, A, cap, S, L, p, hL, hs, hst⟩
/-- What holds where the place of an index has been found, or made. -/
def Found (w : World) (g : Nat) (t : Nat × RN) (A : Option Addr) (cap : Nat) (S : Nat → Prop) (n kk ix gx : Nat) (row : Array Value) (vi vv vt : Value) (W : World) : Prop :=
  ∃ (L : List PE) (e : Ent), L[kk]? = some (ix, e) ∧ L.length ≤ n ∧ Sim t L ∧ St6 w g t A cap S L L L vi vv vt gx (.cells row 48 (0, 0)) W
end
/-- The first place of an index in the list. -/
def placeL (L : List PE) (i : Nat) : Nat := (L.takeWhile fun p => p.1 != i).length
theorem place_le (L : List PE) (i : Nat) : placeL L i ≤ L.length := (List.takeWhile_sublist _).length_le
theorem place_step : ∀ (L : List PE) (i k : Nat), k ≤ placeL L i → (k < placeL L i ↔ ∃ p, L[k]? = some p ∧ p.1 ≠ i)
  | [], i, k, h => by simp [placeL]
  | a :: L, i, k, h => by
    unfold placeL at h ⊢
    by_cases ha : a.1 = i
    · rw [List.takeWhile_cons_of_neg (by simp [ha])] at h ⊢
      have : k = 0 := by simpa using h
      subst this
      simp [ha]
    · rw [List.takeWhile_cons_of_pos (by simp [ha]), List.length_cons] at h ⊢
      match k with
      | 0 => simp [ha]
      | k + 1 =>
        have := place_step L i k (by unfold placeL; omega)
        unfold placeL at this
        simp only [List.getElem?_cons_succ]
        rw [← this]
        omega
theorem place_none {L : List PE} {i : Nat} (h : placeL L i = L.length) : ∀ p ∈ L, p.1 ≠ i := fun p hp => by
  obtain ⟨m, hm⟩ := List.mem_iff_getElem?.1 hp
  have hlt : m < L.length := (List.getElem?_eq_some_iff.1 hm).1
  obtain ⟨q, hq, hne⟩ := (place_step L i m (by omega)).1 (by omega)
  rw [hm] at hq; injection hq with hq; subst hq; exact hne
theorem place_at {L : List PE} {i : Nat} (h : placeL L i < L.length) : ∃ e, L[placeL L i]? = some (i, e) := by
  have hg : L[placeL L i]? = some L[placeL L i] := List.getElem?_eq_getElem h
  have hn := place_step L i _ (Nat.le_refl _)
  have : L[placeL L i].1 = i := Classical.byContradiction fun hne => Nat.lt_irrefl _ (hn.2 ⟨_, hg, hne⟩)
  exact ⟨L[placeL L i].2, by rw [hg]; exact congrArg some (Prod.ext this rfl)⟩
theorem and1 (n : Int) : bits .and .i64 n 1 = n % 2 := by
  have h127 : (BitVec.ofInt 64 1).toNat = 2 ^ 1 - 1 := by decide
  have key : (BitVec.ofInt 64 n &&& BitVec.ofInt 64 1).toNat = (n % ((2 ^ 64 : Nat) : Int)).toNat % 2 ^ 1 := by
    rw [BitVec.toNat_and, BitVec.toNat_ofInt, h127, Nat.and_two_pow_sub_one_eq_mod]
  show IntKind.i64.wrap ((BitVec.ofInt 64 n &&& BitVec.ofInt 64 1).toNat : Nat) = n % 2
  rw [key, IntKind.wrap_i64]
  omega
end Go.Proofs.Ytcicfijpfhbcaaa
