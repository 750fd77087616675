/-
  The reference's Build.
-/
import Derived.Test.YtcicfijpfhbcaaaNi
import Derived.Test.YtcicfijpfhbcaaaSh
namespace Go.Proofs.Ytcicfijpfhbcaaa
set_option linter.unusedSimpArgs false
set_option linter.unusedVariables false
set_option linter.unusedSectionVars false
open Go.RowKit

@[go_sem] theorem build_rowR (h : Int) (y : RN) (s : Value) : Array.foldl (fun (cs : Array Value) (x : Value × Nat) => cs.setIfInBounds (1 + x.snd) x.fst)
        #[.int .i64 h, .int .i64 0, .int .i64 0, .int .i64 0, .int .i64 0, .int .i64 0, .int .i64 0, .int .i64 0, .int .i64 0, .int .i64 0, .int .i64 0, .slice none 0 0]
        (cellsN y s).zipIdx 0 11 = cellsR h y s := by kernel_rfl
/-- What the reference's Build leaves. -/
def BuildPost (l : List E3) (w : World) (e : Ending) (w' : World) : Prop :=
  ∃ (h : Nat) (x : RN) (s : Value), e = .returned (.agg (cellsR h x s)) ∧ OwnK w' x s (fun b => w.heap.size ≤ b) ∧ Below w.heap.size w w' ∧
    ((l = [] ∧ h = 0 ∧ x = zeroN) ∨ ∃ (m : Nat) (z : E3), h = m + 1 ∧ m ≤ 9 ∧ l.getLast? = some z ∧ z.1 < 8 ^ (m + 1) ∧ (m = 0 ∨ 8 ^ m ≤ z.1) ∧ x = nodeP m l 0)

theorem nil_or_snoc {α : Type} (l : List α) : l = [] ∨ ∃ (a : List α) (b : α), l = a ++ [b] := by
  rcases List.eq_nil_or_concat l with h | ⟨a, b, h⟩
  · exact .inl h
  · exact .inr ⟨a, b, by simpa using h⟩

set_option maxRecDepth 100000 in
set_option maxHeartbeats 1000000 in
theorem r_Build (v : Value) (l : List E3) (base : Nat) (w : World) (h : OwnE w base l v) (hin : InE l 0 (8 ^ 9)) (hasc : l.Pairwise fun a b => a.1 < b.1) :
    Calls Try.prog 80 #[v] w (BuildPost l w) := by
  rcases nil_or_snoc l with rfl | ⟨l0, z, rfl⟩
  · obtain ⟨A, cap, rfl, -, -⟩ := h.slice
    clear h
    go_enter Try.func80, Try.ntmps80
    go_wp2_with fail
    exact bodyPost_ret (v := .agg (cellsR 0 zeroN (.slice none 0 0))) (results_cell_row Try.results80 _ _ w.heap.size _ _ _ _ rfl (heap_alloc_here _ _ _ rfl) Try.underlying28 rfl sizeR) rfl ⟨0, zeroN, _, rfl, OwnK.none_ rfl, by (repeat' (first | (with_reducible exact Below.refl _ _) | (with_reducible assumption) | (with_reducible refine below_plus ?_ ?_ _) | (with_reducible refine Below.alloc ?_ ?_ _) | (with_reducible refine Below.drew ?_) | (with_reducible refine below_drewN ?_ _) | (with_reducible refine Below.setCell ?_ ?_ _) | (first | omega | (simp only [World.size_alloc, size_plus, World.size_drew, World.size_setCell] <;> omega) | (simp <;> omega)) | omega | (simp; omega))), .inl ⟨rfl, rfl, rfl⟩⟩
  · obtain ⟨L, hL⟩ : ∃ L, l0.length = L := ⟨_, rfl⟩
    have hLl : (l0 ++ [z]).length = L + 1 := by rw [List.length_append, hL]; rfl
    have hz : (l0 ++ [z])[L]? = some z := by rw [← hL]; simp
    have hlast : (l0 ++ [z]).getLast? = some z := by simp
    obtain ⟨A, cap, rfl, hc1, hc2⟩ := h.slice
    obtain ⟨g, cap', hs, -, hgw, c0, -, -⟩ := h.at hz
    injection hs with e1 e2 e3
    subst e1 e3
    clear e2
    have hzin := hin.lo z (by simp)
    have hzhi := hin.hi z (by simp)
    have HL := Lib.hid h
    have HIN := Lib.hid hin
    have HLAST := Lib.hid hlast
    have HASC : Hid (∀ e ∈ l0 ++ [z], e.1 ≤ z.1) := fun e he => by
      rcases List.mem_append.1 he with h | h
      · have := (List.pairwise_append.1 hasc).2.2 e h z (by simp); omega
      · rw [List.mem_singleton] at h; subst h; omega
    have hlen := hin.len
    rw [hLl] at hc1 hlen ⊢
    have HLL := Lib.hid hLl
    have h89 : (8 : Int) * 8 ^ 9 = 1073741824 := by decide
    rw [h89] at hzhi
    have HSP : Hid (∀ (k : Nat) W, k ≤ 10 → Calls Try.prog 102 #[.int .i64 (k : Int)] W fun e w' => e = .returned (.int .i64 ((8 ^ k : Nat) : Int)) ∧ W = w') := fun k W hk => r_span k hk W
    clear h hin hlast hasc hL hz hLl h89
    generalize l0 ++ [z] = l at *
    go_enter Try.func80, Try.ntmps80
    go_wp2_with fail
    go_loopw [3] (fun i wr => ∃ k : Nat, k ≤ 9 ∧ i = .int .i64 ((k : Int) + 1) ∧ (k = 0 ∨ (8 ^ k : Int) ≤ z.1) ∧ ∃ X, wr = (w.alloc (.cells (cellsR 0 zeroN (.slice none 0 0)) 28)).plus X) (fun i _ => 11 - (intOf i).toNat)
    case atStart => exact ⟨0, by omega, rfl, .inl rfl, plus_of_below (Below.refl _ _)⟩
    case round =>
      obtain ⟨k, hk, rfl, hkz, Y, rfl⟩ := hrel
      have HKZ := Lib.hid hkz
      clear hkz
      have hcL : (((L : Int) + 1) - 1) = L := by omega
      have hbY : Below w.heap.size w ((w.alloc (.cells (cellsR 0 zeroN (.slice none 0 0)) 28)).plus Y) := below_plus (below_alloc _ _) (by simp) _
      have HSK : Hid (∀ W, Calls Try.prog 102 #[.int .i64 ((k : Int) + 1)] W fun e w' => e = .returned (.int .i64 ((8 ^ (k + 1) : Nat) : Int)) ∧ W = w') := fun W => by
        have := HSP.out (k + 1) W (by omega)
        push_cast at this ⊢; exact this
      by_cases hge : ((8 ^ (k + 1) : Nat) : Int) ≤ z.1
      · have hk8 : k < 9 := by
          rcases Nat.lt_or_ge k 9 with h | h
          · exact h
          · exfalso
            obtain rfl : k = 9 := by omega
            have h9 : ((8 ^ (9 + 1) : Nat) : Int) = 1073741824 := by decide
            rw [h9] at hge; omega
        have HGE : Hid ((8 ^ (k + 1) : Int) ≤ z.1) := by unfold Hid; push_cast at hge; exact hge
        generalize (8 ^ (k + 1) : Nat) = p at *
        go_wp2_with fail
        (refine wp_region_quiet_plus (by kernel_rfl) (by kernel_rfl) ?_; (repeat (go_big_quiet_step ((go_at_call 102; exact Calls.quiet_plus_same (HSK.out _))))); refine wpQuiet_nil ?_; intro _)
        go_wp2_with fail
        exact ⟨⟨k + 1, by omega, by go_num, .inr HGE.out, plus_of_below (by (repeat' (first | (with_reducible exact Below.refl _ _) | (with_reducible assumption) | (with_reducible refine below_plus ?_ ?_ _) | (with_reducible refine Below.alloc ?_ ?_ _) | (with_reducible refine Below.drew ?_) | (with_reducible refine below_drewN ?_ _) | (with_reducible refine Below.setCell ?_ ?_ _) | (first | omega | (simp only [World.size_alloc, size_plus, World.size_drew, World.size_setCell] <;> omega) | (simp <;> omega)) | omega | (simp; omega))))⟩, by simp [intOf]; omega⟩
      · have hzlt : z.1 < ((8 ^ (k + 1) : Nat) : Int) := by omega
        have HZ : Hid (z.1 < (8 ^ (k + 1) : Int)) := by unfold Hid; push_cast at hzlt; exact hzlt
        have HNO : Hid (∀ W, Below w.heap.size w W → Calls Try.prog 103 #[.slice (some ⟨g, 0, none⟩) (L + 1) cap, .int .i64 ((k : Int) + 1), .int .i64 0] W (ClonePost (nodeP k l 0) W)) := fun W hW => by
          have hi2 : InE l 0 (8 ^ k) := ⟨HIN.out.lo, fun e he => by
            have h1 := HASC.out e he
            have h2 := HZ.out
            rw [Int.pow_succ] at h2
            omega, HIN.out.tg, HIN.out.len⟩
          have h10 : (0 : Int) + 8 ^ (k + 1) ≤ 1073741824 := by
            have h1 : (8 : Nat) ^ (k + 1) ≤ 8 ^ 10 := pow8_mono (by omega)
            have h9 : (8 : Nat) ^ 10 = 1073741824 := by decide
            rw [h9] at h1
            have h2 : ((8 ^ (k + 1) : Nat) : Int) ≤ 1073741824 := Int.ofNat_le.2 h1
            rw [Int.natCast_pow] at h2
            rw [Int.zero_add]; exact h2
          have := r_node k hk (.slice (some ⟨g, 0, none⟩) l.length cap) l base 0 W (HL.out.below hW) hi2 (by omega) h10
          rw [HLL.out] at this
          exact this
        have HF : Hid (∃ (m : Nat) (y : E3), k + 1 = m + 1 ∧ m ≤ 9 ∧ l.getLast? = some y ∧ y.1 < 8 ^ (m + 1) ∧ (m = 0 ∨ 8 ^ m ≤ y.1) ∧ nodeP k l 0 = nodeP m l 0) := ⟨k, z, rfl, hk, HLAST.out, HZ.out, HKZ.out, rfl⟩
        clear hge
        generalize (8 ^ (k + 1) : Nat) = p at *
        generalize hN : nodeP k l 0 = N at *
        clear hN
        have hge : ¬ (p : Int) ≤ z.1 := by omega
        go_wp2_with fail
        (refine wp_region_quiet_plus (by kernel_rfl) (by kernel_rfl) ?_; (repeat (go_big_quiet_step ((go_at_call 102; exact Calls.quiet_plus_same (HSK.out _))))); refine wpQuiet_nil ?_; intro _)
        go_wp2_with (first
          | (go_at_call 103; (with_reducible refine (HNO.out _ ?_).mono ?_); (focus (repeat' (first | (with_reducible exact Below.refl _ _) | (with_reducible assumption) | (with_reducible refine below_plus ?_ ?_ _) | (with_reducible refine Below.alloc ?_ ?_ _) | (with_reducible refine Below.drew ?_) | (with_reducible refine below_drewN ?_ _) | (with_reducible refine Below.setCell ?_ ?_ _) | (first | omega | (simp only [World.size_alloc, size_plus, World.size_drew, World.size_setCell] <;> omega) | (simp <;> omega)) | omega | (simp; omega)))); rintro e W1 ⟨s1, rfl, ho, hb⟩; (obtain ⟨A1, cap1, rfl, -⟩ := ho.slice); have HO := Lib.hid ho; have HB := Lib.hid hb; clear ho hb)
          | ((with_reducible refine wpList_storeR (.tmp 2) (.tmp 24) ?_ ?_ w.heap.size ?_ ((k : Int) + 1) N A1 N.n cap1 ?_ (cellsR 0 zeroN (.slice none 0 0)) 28 ?_ rfl ?_); (with_reducible rfl); rfl; rfl; rfl; exact (HB.out.block w.heap.size (by (first | omega | (simp only [World.size_alloc, size_plus, World.size_drew, World.size_setCell] <;> omega) | (simp <;> omega)))).trans (by (repeat' (first | (refine heap_alloc_here _ _ _ ?_; (first | omega | (simp only [World.size_alloc, size_plus, World.size_drew, World.size_setCell] <;> omega) | (simp <;> omega))) | (refine (heap_alloc_old _ _ _ ?_).trans ?_; (first | omega | (simp only [World.size_alloc, size_plus, World.size_drew, World.size_setCell] <;> omega) | (simp <;> omega))) | (refine (heap_plus _ _ _ ?_).trans ?_; (first | omega | (simp only [World.size_alloc, size_plus, World.size_drew, World.size_setCell] <;> omega) | (simp <;> omega))) | rfl)))))
        have HBX : W1.heap[w.heap.size]? = some (.cells (cellsR 0 zeroN (.slice none 0 0)) 28 (0, 0)) := (HB.out.block w.heap.size (by (first | omega | (simp only [World.size_alloc, size_plus, World.size_drew, World.size_setCell] <;> omega) | (simp <;> omega)))).trans (by (repeat' (first | (refine heap_alloc_here _ _ _ ?_; (first | omega | (simp only [World.size_alloc, size_plus, World.size_drew, World.size_setCell] <;> omega) | (simp <;> omega))) | (refine (heap_alloc_old _ _ _ ?_).trans ?_; (first | omega | (simp only [World.size_alloc, size_plus, World.size_drew, World.size_setCell] <;> omega) | (simp <;> omega))) | (refine (heap_plus _ _ _ ?_).trans ?_; (first | omega | (simp only [World.size_alloc, size_plus, World.size_drew, World.size_setCell] <;> omega) | (simp <;> omega))) | rfl)))
        refine bodyPost_ret (v := .agg (cellsR ((k : Int) + 1) N (.slice A1 N.n cap1))) (results_cell_row Try.results80 _ _ w.heap.size _ _ _ _ rfl (setRow_heap W1 _ _ _ _ _ HBX) Try.underlying28 rfl sizeR) rfl ?_
        refine ⟨k + 1, N, _, by push_cast; rfl, (OwnK.frame N HO.out fun b hb _ => setRow_other W1 _ b _ ?_).mono fun b hb => ?_, below_setRow ?_ ?_ _, .inr HF.out⟩
        · have h1 := hb.1; simp at h1; omega
        · have h1 := hb.1; simp at h1; omega
        · exact below_trans (by (repeat' (first | (with_reducible exact Below.refl _ _) | (with_reducible assumption) | (with_reducible refine below_plus ?_ ?_ _) | (with_reducible refine Below.alloc ?_ ?_ _) | (with_reducible refine Below.drew ?_) | (with_reducible refine below_drewN ?_ _) | (with_reducible refine Below.setCell ?_ ?_ _) | (first | omega | (simp only [World.size_alloc, size_plus, World.size_drew, World.size_setCell] <;> omega) | (simp <;> omega)) | omega | (simp; omega)))) (HB.out.mono (by (first | omega | (simp only [World.size_alloc, size_plus, World.size_drew, World.size_setCell] <;> omega) | (simp <;> omega))))
        · have := HB.out.size; simp at this; omega
end Go.Proofs.Ytcicfijpfhbcaaa
