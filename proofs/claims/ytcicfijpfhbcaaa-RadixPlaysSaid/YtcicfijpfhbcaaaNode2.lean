/-
  More on worlds and nodes.
-/
import Derived.Test.YtcicfijpfhbcaaaNode
namespace Go.Proofs.Ytcicfijpfhbcaaa
set_option linter.unusedSimpArgs false
set_option linter.unusedVariables false
set_option linter.unusedSectionVars false
open Go.RowKit
/-! Sizes held against each other, for simp alone. -/
@[go_sem] theorem sz1_0 {A : Nat} : (A < A + 1) = True := by simp only [eq_iff_iff, iff_true]; omega
@[go_sem] theorem sz3_0 {A : Nat} : (A = A + 1) = False := by simp only [eq_iff_iff, iff_false]; omega
@[go_sem] theorem sz6_0 {A : Nat} : (A + 1 = A) = False := by simp only [eq_iff_iff, iff_false]; omega
@[go_sem] theorem sz9_0 {A : Nat} : (A + 1 ≤ A) = False := by simp only [eq_iff_iff, iff_false]; omega
@[go_sem] theorem sz4_0 {x : Nat} {w : World} (hx : x < w.heap.size) : (x = w.heap.size) = False := by simp only [eq_iff_iff, iff_false]; omega
@[go_sem] theorem sz8_0 {x : Nat} {w : World} (hx : x < w.heap.size) : (x ≤ w.heap.size) = True := by simp only [eq_iff_iff, iff_true]; omega
@[go_sem] theorem sz1_1 {A a : Nat} : (A < A + 1 + a) = True := by simp only [eq_iff_iff, iff_true]; omega
@[go_sem] theorem sz3_1 {A a : Nat} : (A = A + 1 + a) = False := by simp only [eq_iff_iff, iff_false]; omega
@[go_sem] theorem sz6_1 {A a : Nat} : (A + 1 + a = A) = False := by simp only [eq_iff_iff, iff_false]; omega
@[go_sem] theorem sz9_1 {A a : Nat} : (A + 1 + a ≤ A) = False := by simp only [eq_iff_iff, iff_false]; omega
@[go_sem] theorem sz4_1 {x a : Nat} {w : World} (hx : x < w.heap.size) : (x = w.heap.size + a) = False := by simp only [eq_iff_iff, iff_false]; omega
@[go_sem] theorem sz8_1 {x a : Nat} {w : World} (hx : x < w.heap.size) : (x ≤ w.heap.size + a) = True := by simp only [eq_iff_iff, iff_true]; omega
@[go_sem] theorem sz2_1 {x a : Nat} {w : World} (hx : x < w.heap.size) : (x < w.heap.size + a) = True := by simp only [eq_iff_iff, iff_true]; omega
@[go_sem] theorem sz5_1 {A a : Nat} : (A + a < A) = False := by simp only [eq_iff_iff, iff_false]; omega
@[go_sem] theorem sz7_1 {A a : Nat} : (A ≤ A + a) = True := by simp only [eq_iff_iff, iff_true]; omega
@[go_sem] theorem sz1_2 {A a b : Nat} : (A < A + 1 + a + b) = True := by simp only [eq_iff_iff, iff_true]; omega
@[go_sem] theorem sz3_2 {A a b : Nat} : (A = A + 1 + a + b) = False := by simp only [eq_iff_iff, iff_false]; omega
@[go_sem] theorem sz6_2 {A a b : Nat} : (A + 1 + a + b = A) = False := by simp only [eq_iff_iff, iff_false]; omega
@[go_sem] theorem sz9_2 {A a b : Nat} : (A + 1 + a + b ≤ A) = False := by simp only [eq_iff_iff, iff_false]; omega
@[go_sem] theorem sz4_2 {x a b : Nat} {w : World} (hx : x < w.heap.size) : (x = w.heap.size + a + b) = False := by simp only [eq_iff_iff, iff_false]; omega
@[go_sem] theorem sz8_2 {x a b : Nat} {w : World} (hx : x < w.heap.size) : (x ≤ w.heap.size + a + b) = True := by simp only [eq_iff_iff, iff_true]; omega
@[go_sem] theorem sz2_2 {x a b : Nat} {w : World} (hx : x < w.heap.size) : (x < w.heap.size + a + b) = True := by simp only [eq_iff_iff, iff_true]; omega
@[go_sem] theorem sz5_2 {A a b : Nat} : (A + a + b < A) = False := by simp only [eq_iff_iff, iff_false]; omega
@[go_sem] theorem sz7_2 {A a b : Nat} : (A ≤ A + a + b) = True := by simp only [eq_iff_iff, iff_true]; omega
@[go_sem] theorem sz1_3 {A a b c : Nat} : (A < A + 1 + a + b + c) = True := by simp only [eq_iff_iff, iff_true]; omega
@[go_sem] theorem sz3_3 {A a b c : Nat} : (A = A + 1 + a + b + c) = False := by simp only [eq_iff_iff, iff_false]; omega
@[go_sem] theorem sz6_3 {A a b c : Nat} : (A + 1 + a + b + c = A) = False := by simp only [eq_iff_iff, iff_false]; omega
@[go_sem] theorem sz9_3 {A a b c : Nat} : (A + 1 + a + b + c ≤ A) = False := by simp only [eq_iff_iff, iff_false]; omega
@[go_sem] theorem sz4_3 {x a b c : Nat} {w : World} (hx : x < w.heap.size) : (x = w.heap.size + a + b + c) = False := by simp only [eq_iff_iff, iff_false]; omega
@[go_sem] theorem sz8_3 {x a b c : Nat} {w : World} (hx : x < w.heap.size) : (x ≤ w.heap.size + a + b + c) = True := by simp only [eq_iff_iff, iff_true]; omega
@[go_sem] theorem sz2_3 {x a b c : Nat} {w : World} (hx : x < w.heap.size) : (x < w.heap.size + a + b + c) = True := by simp only [eq_iff_iff, iff_true]; omega
@[go_sem] theorem sz5_3 {A a b c : Nat} : (A + a + b + c < A) = False := by simp only [eq_iff_iff, iff_false]; omega
@[go_sem] theorem sz7_3 {A a b c : Nat} : (A ≤ A + a + b + c) = True := by simp only [eq_iff_iff, iff_true]; omega
@[go_sem] theorem sz1_4 {A a b c d : Nat} : (A < A + 1 + a + b + c + d) = True := by simp only [eq_iff_iff, iff_true]; omega
@[go_sem] theorem sz3_4 {A a b c d : Nat} : (A = A + 1 + a + b + c + d) = False := by simp only [eq_iff_iff, iff_false]; omega
@[go_sem] theorem sz6_4 {A a b c d : Nat} : (A + 1 + a + b + c + d = A) = False := by simp only [eq_iff_iff, iff_false]; omega
@[go_sem] theorem sz9_4 {A a b c d : Nat} : (A + 1 + a + b + c + d ≤ A) = False := by simp only [eq_iff_iff, iff_false]; omega
@[go_sem] theorem sz4_4 {x a b c d : Nat} {w : World} (hx : x < w.heap.size) : (x = w.heap.size + a + b + c + d) = False := by simp only [eq_iff_iff, iff_false]; omega
@[go_sem] theorem sz8_4 {x a b c d : Nat} {w : World} (hx : x < w.heap.size) : (x ≤ w.heap.size + a + b + c + d) = True := by simp only [eq_iff_iff, iff_true]; omega
@[go_sem] theorem sz2_4 {x a b c d : Nat} {w : World} (hx : x < w.heap.size) : (x < w.heap.size + a + b + c + d) = True := by simp only [eq_iff_iff, iff_true]; omega
@[go_sem] theorem sz5_4 {A a b c d : Nat} : (A + a + b + c + d < A) = False := by simp only [eq_iff_iff, iff_false]; omega
@[go_sem] theorem sz7_4 {A a b c d : Nat} : (A ≤ A + a + b + c + d) = True := by simp only [eq_iff_iff, iff_true]; omega
@[go_sem] theorem sz1_5 {A a b c d e : Nat} : (A < A + 1 + a + b + c + d + e) = True := by simp only [eq_iff_iff, iff_true]; omega
@[go_sem] theorem sz3_5 {A a b c d e : Nat} : (A = A + 1 + a + b + c + d + e) = False := by simp only [eq_iff_iff, iff_false]; omega
@[go_sem] theorem sz6_5 {A a b c d e : Nat} : (A + 1 + a + b + c + d + e = A) = False := by simp only [eq_iff_iff, iff_false]; omega
@[go_sem] theorem sz9_5 {A a b c d e : Nat} : (A + 1 + a + b + c + d + e ≤ A) = False := by simp only [eq_iff_iff, iff_false]; omega
@[go_sem] theorem sz4_5 {x a b c d e : Nat} {w : World} (hx : x < w.heap.size) : (x = w.heap.size + a + b + c + d + e) = False := by simp only [eq_iff_iff, iff_false]; omega
@[go_sem] theorem sz8_5 {x a b c d e : Nat} {w : World} (hx : x < w.heap.size) : (x ≤ w.heap.size + a + b + c + d + e) = True := by simp only [eq_iff_iff, iff_true]; omega
@[go_sem] theorem sz2_5 {x a b c d e : Nat} {w : World} (hx : x < w.heap.size) : (x < w.heap.size + a + b + c + d + e) = True := by simp only [eq_iff_iff, iff_true]; omega
@[go_sem] theorem sz5_5 {A a b c d e : Nat} : (A + a + b + c + d + e < A) = False := by simp only [eq_iff_iff, iff_false]; omega
@[go_sem] theorem sz7_5 {A a b c d e : Nat} : (A ≤ A + a + b + c + d + e) = True := by simp only [eq_iff_iff, iff_true]; omega
@[go_sem] theorem sz1_6 {A a b c d e f : Nat} : (A < A + 1 + a + b + c + d + e + f) = True := by simp only [eq_iff_iff, iff_true]; omega
@[go_sem] theorem sz3_6 {A a b c d e f : Nat} : (A = A + 1 + a + b + c + d + e + f) = False := by simp only [eq_iff_iff, iff_false]; omega
@[go_sem] theorem sz6_6 {A a b c d e f : Nat} : (A + 1 + a + b + c + d + e + f = A) = False := by simp only [eq_iff_iff, iff_false]; omega
@[go_sem] theorem sz9_6 {A a b c d e f : Nat} : (A + 1 + a + b + c + d + e + f ≤ A) = False := by simp only [eq_iff_iff, iff_false]; omega
@[go_sem] theorem sz4_6 {x a b c d e f : Nat} {w : World} (hx : x < w.heap.size) : (x = w.heap.size + a + b + c + d + e + f) = False := by simp only [eq_iff_iff, iff_false]; omega
@[go_sem] theorem sz8_6 {x a b c d e f : Nat} {w : World} (hx : x < w.heap.size) : (x ≤ w.heap.size + a + b + c + d + e + f) = True := by simp only [eq_iff_iff, iff_true]; omega
@[go_sem] theorem sz2_6 {x a b c d e f : Nat} {w : World} (hx : x < w.heap.size) : (x < w.heap.size + a + b + c + d + e + f) = True := by simp only [eq_iff_iff, iff_true]; omega
@[go_sem] theorem sz5_6 {A a b c d e f : Nat} : (A + a + b + c + d + e + f < A) = False := by simp only [eq_iff_iff, iff_false]; omega
@[go_sem] theorem sz7_6 {A a b c d e f : Nat} : (A ≤ A + a + b + c + d + e + f) = True := by simp only [eq_iff_iff, iff_true]; omega
@[go_sem] theorem sz1_7 {A a b c d e f g : Nat} : (A < A + 1 + a + b + c + d + e + f + g) = True := by simp only [eq_iff_iff, iff_true]; omega
@[go_sem] theorem sz3_7 {A a b c d e f g : Nat} : (A = A + 1 + a + b + c + d + e + f + g) = False := by simp only [eq_iff_iff, iff_false]; omega
@[go_sem] theorem sz6_7 {A a b c d e f g : Nat} : (A + 1 + a + b + c + d + e + f + g = A) = False := by simp only [eq_iff_iff, iff_false]; omega
@[go_sem] theorem sz9_7 {A a b c d e f g : Nat} : (A + 1 + a + b + c + d + e + f + g ≤ A) = False := by simp only [eq_iff_iff, iff_false]; omega
@[go_sem] theorem sz4_7 {x a b c d e f g : Nat} {w : World} (hx : x < w.heap.size) : (x = w.heap.size + a + b + c + d + e + f + g) = False := by simp only [eq_iff_iff, iff_false]; omega
@[go_sem] theorem sz8_7 {x a b c d e f g : Nat} {w : World} (hx : x < w.heap.size) : (x ≤ w.heap.size + a + b + c + d + e + f + g) = True := by simp only [eq_iff_iff, iff_true]; omega
@[go_sem] theorem sz2_7 {x a b c d e f g : Nat} {w : World} (hx : x < w.heap.size) : (x < w.heap.size + a + b + c + d + e + f + g) = True := by simp only [eq_iff_iff, iff_true]; omega
@[go_sem] theorem sz5_7 {A a b c d e f g : Nat} : (A + a + b + c + d + e + f + g < A) = False := by simp only [eq_iff_iff, iff_false]; omega
@[go_sem] theorem sz7_7 {A a b c d e f g : Nat} : (A ≤ A + a + b + c + d + e + f + g) = True := by simp only [eq_iff_iff, iff_true]; omega
@[go_sem] theorem sz1_8 {A a b c d e f g h : Nat} : (A < A + 1 + a + b + c + d + e + f + g + h) = True := by simp only [eq_iff_iff, iff_true]; omega
@[go_sem] theorem sz3_8 {A a b c d e f g h : Nat} : (A = A + 1 + a + b + c + d + e + f + g + h) = False := by simp only [eq_iff_iff, iff_false]; omega
@[go_sem] theorem sz6_8 {A a b c d e f g h : Nat} : (A + 1 + a + b + c + d + e + f + g + h = A) = False := by simp only [eq_iff_iff, iff_false]; omega
@[go_sem] theorem sz9_8 {A a b c d e f g h : Nat} : (A + 1 + a + b + c + d + e + f + g + h ≤ A) = False := by simp only [eq_iff_iff, iff_false]; omega
@[go_sem] theorem sz4_8 {x a b c d e f g h : Nat} {w : World} (hx : x < w.heap.size) : (x = w.heap.size + a + b + c + d + e + f + g + h) = False := by simp only [eq_iff_iff, iff_false]; omega
@[go_sem] theorem sz8_8 {x a b c d e f g h : Nat} {w : World} (hx : x < w.heap.size) : (x ≤ w.heap.size + a + b + c + d + e + f + g + h) = True := by simp only [eq_iff_iff, iff_true]; omega
@[go_sem] theorem sz2_8 {x a b c d e f g h : Nat} {w : World} (hx : x < w.heap.size) : (x < w.heap.size + a + b + c + d + e + f + g + h) = True := by simp only [eq_iff_iff, iff_true]; omega
@[go_sem] theorem sz5_8 {A a b c d e f g h : Nat} : (A + a + b + c + d + e + f + g + h < A) = False := by simp only [eq_iff_iff, iff_false]; omega
@[go_sem] theorem sz7_8 {A a b c d e f g h : Nat} : (A ≤ A + a + b + c + d + e + f + g + h) = True := by simp only [eq_iff_iff, iff_true]; omega
theorem plus_self (w : World) : w.plus ⟨#[], w.drawn⟩ = w := by simp [World.plus]
@[go_sem] theorem cellsN_toList (x : RN) (s : Value) : (cellsN x s).toList = [.int .i64 (x.v 0), .int .i64 (x.v 1), .int .i64 (x.v 2), .int .i64 (x.v 3), .int .i64 (x.v 4), .int .i64 (x.v 5), .int .i64 (x.v 6), .int .i64 (x.v 7), .int .i64 x.t0, .int .i64 x.t1, s] := rfl
theorem listN_v (x : RN) (s : Value) : ∀ j, j < 8 → ([.int .i64 (x.v 0), .int .i64 (x.v 1), .int .i64 (x.v 2), .int .i64 (x.v 3), .int .i64 (x.v 4), .int .i64 (x.v 5), .int .i64 (x.v 6), .int .i64 (x.v 7), .int .i64 x.t0, .int .i64 x.t1, s] : List Value)[j]? = some (.int .i64 (x.v j))
  | 0, _ => rfl
  | 1, _ => rfl
  | 2, _ => rfl
  | 3, _ => rfl
  | 4, _ => rfl
  | 5, _ => rfl
  | 6, _ => rfl
  | 7, _ => rfl
  | _ + 8, h => absurd h (by omega)
end Go.Proofs.Ytcicfijpfhbcaaa
