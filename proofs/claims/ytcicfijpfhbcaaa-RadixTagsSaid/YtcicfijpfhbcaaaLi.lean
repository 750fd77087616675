/-
  Lists of numbers: the reference's List, radix.List.
-/
import Derived.Test.YtcicfijpfhbcaaaRq
namespace Go.Proofs.Ytcicfijpfhbcaaa
set_option linter.unusedSimpArgs false
set_option linter.unusedVariables false
set_option linter.unusedSectionVars false
open Go.RowKit

theorem infoI : (Try.prog.info? 3).map (fun i => (i.size, i.bytes, i.zero.map fun z => z.cells.size)) = some (1, 8, some 1) := by kernel_rfl
theorem info_partsI : ∃ i z, Try.prog.info? 3 = some i ∧ i.zero = some z ∧ i.size = 1 ∧ i.bytes = 8 ∧ z.cells.size = 1 := by
  have h := infoI
  cases hi : Try.prog.info? 3 with
  | none => rw [hi] at h; simp at h
  | some i =>
    rw [hi] at h
    simp only [Option.map_some, Option.some.injEq, Prod.mk.injEq] at h
    obtain ⟨h1, h2, h3⟩ := h
    cases hz : i.zero with
    | none => rw [hz] at h3; simp at h3
    | some z => rw [hz] at h3; exact ⟨i, z, rfl, hz, h1, h2, by simpa using h3⟩

def flatI (l : List Int) : List Value := l.map fun i => .int .i64 i
/-- A list of numbers in a block of its own. -/
def OwnI (w : World) (base : Nat) (l : List Int) (v : Value) : Prop := w.ownsRow base 3 1 v l.length (flatI l)
theorem OwnI.nil (w : World) (base : Nat) : OwnI w base [] (.slice none 0 0) := ⟨rfl, .inl ⟨rfl, rfl⟩⟩
theorem OwnI.slice {w : World} {base : Nat} {l : List Int} {v : Value} (h : OwnI w base l v) : ∃ A cap, v = .slice A l.length cap ∧ l.length ≤ cap ∧ cap ≤ maxLen := by
  rcases h.2 with ⟨h1, h2⟩ | ⟨g, cap, cur, h1, -, -, h4, h5, -⟩
  · exact ⟨none, 0, by rw [h1, h2], by omega, by decide⟩
  · exact ⟨_, _, h1, h4, h5⟩
theorem OwnI.keep {w w' : World} {base : Nat} {l : List Int} {v : Value} (h : OwnI w base l v) (hk : ∀ q, v.ownBlock = some q → q < w.heap.size → w'.heap[q]? = w.heap[q]?) : OwnI w' base l v := by
  refine ⟨h.1, ?_⟩
  rcases h.2 with h1 | ⟨g, cap, cur, h1, h2, h3, h4⟩
  · exact .inl h1
  · exact .inr ⟨g, cap, cur, h1, h2, by rw [hk g (by rw [h1]; rfl) (lt_of_heap h3)]; exact h3, h4⟩
theorem OwnI.below {w w' : World} {base : Nat} {l : List Int} {v : Value} (h : OwnI w base l v) (hb : Below w.heap.size w w') : OwnI w' base l v := h.keep fun q _ hl => hb.block q hl
theorem OwnI.mono {w : World} {base base' : Nat} {l : List Int} {v : Value} (h : OwnI w base l v) (hb : base' ≤ base) : OwnI w base' l v := by
  refine ⟨h.1, ?_⟩
  rcases h.2 with h1 | ⟨g, cap, cur, h1, h2, h3, h4⟩
  · exact .inl h1
  · exact .inr ⟨g, cap, cur, h1, by omega, h3, h4⟩
theorem OwnI.base_ {w : World} {base : Nat} {l : List Int} {v : Value} (h : OwnI w base l v) : ∀ g, v.ownBlock = some g → base ≤ g := fun g hg => by
  rcases h.2 with ⟨h1, -⟩ | ⟨q, cap, cur, h1, h2, -⟩
  · rw [h1] at hg; cases hg
  · rw [h1] at hg
    have : q = g := by simpa [Value.ownBlock] using hg
    omega
theorem OwnI.lt {w : World} {base : Nat} {l : List Int} {v : Value} (h : OwnI w base l v) : ∀ q, v.ownBlock = some q → q < w.heap.size := fun q hq => by
  rcases h.2 with ⟨h1, -⟩ | ⟨g, cap, cur, h1, h2, h3, -⟩
  · rw [h1] at hq; cases hq
  · rw [h1] at hq
    have : g = q := by simpa [Value.ownBlock] using hq
    subst this
    exact lt_of_heap h3
theorem OwnI.at {w : World} {base : Nat} {l : List Int} {v : Value} (h : OwnI w base l v) {k : Nat} {i : Int} (hk : l[k]? = some i) :
    ∃ g cap, v = .slice (some ⟨g, 0, none⟩) l.length cap ∧ base ≤ g ∧ g < w.heap.size ∧ w.cell? ⟨g, k, none⟩ = some (.int .i64 i) := by
  have hlt : k < l.length := (List.getElem?_eq_some_iff.1 hk).1
  rcases h.2 with ⟨h1, h2⟩ | ⟨g, cap, cur, h1, h2, h3, h4, h5, h6, h7⟩
  · omega
  · refine ⟨g, cap, h1, h2, lt_of_heap h3, ?_⟩
    rw [cell_of_row _ _ _ _ _ _ h3]
    have : (flatI l)[k]? = some (.int .i64 i) := by unfold flatI; rw [List.getElem?_map, hk]; rfl
    rw [← this, ← h7, List.getElem?_take, if_pos (by omega), Array.getElem?_toList]

/-- What an append to an owned list of numbers leaves. -/
structure AppI (w w' : World) (base : Nat) (l : List Int) (v v' : Value) : Prop where
  own : OwnI w' base l v'
  below : Below base w w'
  far : ∀ b, b < w.heap.size → v.ownBlock ≠ some b → w'.heap[b]? = w.heap[b]?
  lies : ∀ q, v'.ownBlock = some q → v.ownBlock = some q ∨ w.heap.size ≤ q
  grown : w.grownBy w' v.ownBlock
theorem wpList_appendI {ops : Array Oper} {rest : List Oper} {o : Oper} {a : Act} {w : World} {Q : Exit → Act → World → Prop} (hgd : o.guard = none) (s x : Operand) (ho : o.op = .call { callee := .builtin .append, args := #[s, x], argTypes := #[43, 43] })
    (base : Nat) (l : List Int) (v : Value) (hs : a.eval s = v) (hown : OwnI w base l v) (i : Int) (t : TypeId) (hx : a.eval x = .slice (some ⟨w.heap.size, 0, none⟩) 1 1)
    (hb : base ≤ w.heap.size) (hl : l.length ≤ 1073741824)
    (h : ∀ v' w', AppI (w.alloc (.cells #[.int .i64 i] t)) w' base (l ++ [i]) v v' → wpList Try.prog ops Q rest (a.put o.dst v') w') : wpList Try.prog ops Q (o :: rest) a (w.alloc (.cells #[.int .i64 i] t)) := by
  obtain ⟨i0, z0, hi0, hz0, hz1, hz2, hz3⟩ := info_partsI
  have hown' := hown.below (Below.alloc (Below.refl w.heap.size w) (Nat.le_refl _) (.cells #[.int .i64 i] t))
  refine wpList_append_lies _ hgd s x _ ho base 3 i0 z0 1 8 Try.underlying43 hi0 hz0 hz1 hz2 hz3 (by omega) v l.length (flatI l) hs hown'
    ⟨w.heap.size, 0, none⟩ 1 1 [.int .i64 i] hx rfl (World.news_of_block (heap_alloc_new _ _)) (by simp [Value.oneCell'])
    (by omega) (by unfold maxLen; omega) (by omega) (by simp; omega) _ rfl fun g cap w' h1 h2 h3 h4 => h _ _ ⟨?_, below_grown h2 (by simp; omega) hown'.base_, fun b hb hn => h2.block b hb fun e => hn e.symm, fun q hq => ?_, h2⟩
  · unfold OwnI flatI
    rw [List.length_append, List.map_append]
    exact h1
  · have : g = q := by simpa [Value.ownBlock] using hq
    subst this
    exact h3.imp id fun e => by omega

def idxL (l : List E3) : List Int := l.map fun e => e.1
set_option maxRecDepth 100000 in
set_option maxHeartbeats 1000000 in
theorem r_List (cs : Array Value) (ht : Int) (x : RN) (w : World) (h : RdVals w cs 12 (encR ht x)) :
    Calls Try.prog 39 #[.agg cs] w fun e w' => ∃ v, e = .returned v ∧ OwnI w' w.heap.size (idxL (entT ht x)) v ∧ Below w.heap.size w w' := by
  obtain ⟨A, cap, rfl, hk⟩ := rdR_open h
  have HR := Lib.hid h
  have hlen := entT_len ht x
  have HE : Hid (∀ cs W, RdVals W cs 12 (encR ht x) → Calls Try.prog 78 #[.agg cs] W (EntPost (entT ht x) W)) := fun cs W hr => r_Entries cs ht x W hr
  clear h hk
  generalize entT ht x = l at *
  have hmax : (l.length : Int) ≤ 1073741824 := by omega
  go_enter Try.func39, Try.ntmps39
  go_wp2_with (go_at_call 78; refine (HE.out _ _ ?_).mono ?_; exact HR.out.keep (below_keeps (by (repeat' (first | (with_reducible exact Below.refl _ _) | (with_reducible assumption) | (with_reducible refine below_plus ?_ ?_ _) | (with_reducible refine Below.alloc ?_ ?_ _) | (with_reducible refine Below.drew ?_) | (with_reducible refine below_drewN ?_ _) | (with_reducible refine Below.setCell ?_ ?_ _) | (first | omega | (simp only [World.size_alloc, size_plus, World.size_drew, World.size_setCell] <;> omega) | (simp <;> omega)) | omega | (simp; omega))))); rintro e W ⟨v, rfl, ho, hb⟩; (obtain ⟨A1, cap1, rfl, hc1, hc2⟩ := ho.slice); have HO := Lib.hid ho; have HB := Lib.hid (below_trans (below_alloc w _) (hb.mono (by (first | omega | (simp only [World.size_alloc, size_plus, World.size_drew, World.size_setCell] <;> omega) | (simp <;> omega))))); clear ho hb)
  go_loopw [3, 5] (fun v k wr => ∃ n : Nat, n ≤ l.length ∧ k = .int .i64 n ∧ OwnI wr W.heap.size (idxL (l.take n)) v ∧ Below W.heap.size W wr) (fun _ k _ => l.length - (intOf k).toNat)
  case atStart => exact ⟨0, by omega, rfl, OwnI.nil _ _, Below.refl _ _⟩
  case round =>
    obtain ⟨n, hn, rfl, hI, hbl⟩ := hrel
    rcases Nat.lt_or_ge n l.length with hlt | hge
    · have hg : l[n]? = some l[n] := List.getElem?_eq_getElem hlt
      have hown := HO.out.below hbl
      obtain ⟨g, cap', hs, -, hgw, c0, -, -⟩ := hown.at hg
      injection hs with e1 e2 e3
      subst e1 e3
      have HBL := Lib.hid hbl
      have HI := Lib.hid hI
      have hst : Hid (idxL (l.take (n + 1)) = idxL (l.take n) ++ [l[n].1]) := by unfold Hid idxL; rw [List.take_add_one, hg, List.map_append]; rfl
      have hll : (idxL (l.take n)).length ≤ 1073741824 := by unfold idxL; rw [List.length_map, List.length_take]; omega
      have hsz := hbl.size
      clear e2 hown hbl hg hI
      generalize l[n] = e at *
      go_wp2_with ((with_reducible refine wpList_appendI ?_ (.tmp 14) (.tmp 20) ?_ W.heap.size _ _ ?_ HI.out e.1 _ ?_ hsz hll ?_); rfl; (with_reducible rfl); rfl; rfl; (intro v' w' hap); have HA := Lib.hid hap; clear hap)
      exact ⟨⟨n + 1, by omega, by go_num, by rw [hst.out]; exact HA.out.own, (HBL.out.alloc hsz _).trans HA.out.below⟩, by simp [intOf]; omega⟩
    · obtain rfl : n = l.length := by omega
      have HBL := Lib.hid hbl
      have HI := Lib.hid hI
      clear hbl hI
      go_wp2_with fail
      go_ret
      have := HI.out.mono HB.out.size
      rw [List.take_length] at this
      exact ⟨_, rfl, this, HB.out.trans (HBL.out.mono HB.out.size)⟩
end Go.Proofs.Ytcicfijpfhbcaaa
