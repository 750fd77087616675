/-
  The fixed example of the laws, in plain words.
-/
import Derived.Test.YtcicfijpfhbcaaaNx
import Derived.Test.YtcicfijpfhbcaaaTg
namespace Go.Proofs.Ytcicfijpfhbcaaa
set_option linter.unusedSimpArgs false
set_option linter.unusedVariables false
set_option linter.unusedSectionVars false
open Go.RowKit

def aw1 : Int × RN × Int := setP 0 zeroN 0 5
def aw2 : Int × RN × Int := setP aw1.1 aw1.2.1 9 7
def aw3 : Int × RN × Int := markP aw2.1 aw2.2.1 9 0 true
theorem aw1_e : aw1.2.2 = 0 := by decide +kernel
theorem aw1_h : aw1.1 = 1 := by decide +kernel
theorem aw1_v : aw1.2.1.v 0 = 5 := by decide +kernel
theorem aw2_e : aw2.2.2 = 0 := by decide +kernel
theorem aw2_h : aw2.1 = 2 := by decide +kernel
theorem aw2_n : aw2.2.1.n = 8 := by decide +kernel
theorem aw2_v : (aw2.2.1.kid 1).v 1 = 7 := by decide +kernel
theorem aw3_e : aw3.2.2 = 0 := by decide +kernel
theorem aw3_t : aw3.2.1.t0 = 2 := by decide +kernel
theorem aw3_n0 : nextP aw3.1 aw3.2.1 0 0 = 9 := by decide +kernel
theorem aw3_n1 : nextP aw3.1 aw3.2.1 0 1 = -1 := by decide +kernel
theorem aw3_n2 : nextP aw3.1 aw3.2.1 1 (-1) = 9 := by decide +kernel
theorem aw3_g : getP aw3.1 aw3.2.1 0 = 5 := by decide +kernel
theorem aw3_c : countP aw3.1 aw3.2.1 (-1) = 2 := by decide +kernel
theorem aw_c : checkP 1 zeroN = 3 := by decide +kernel
end Go.Proofs.Ytcicfijpfhbcaaa
