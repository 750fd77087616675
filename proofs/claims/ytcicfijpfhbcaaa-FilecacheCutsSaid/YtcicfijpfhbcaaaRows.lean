/-
  NARROWER THAN 'FOR EVERY INPUT', by the rows' own cells (each row's printed sentence says how): RadixChecks: loops · RadixSets: loops · RadixWalk: loops · RadixTags: loops · RadixNexts: loops · FilecacheAsks: loops · FilecacheTruncates: loops · FilecacheRemoves: loops · FilecachePuts: loops.
  DERIVED. THE GIVEN ROWS OF THIS SEAT. 14 by the template 'for every input the law returns true; each argument reads behind the call as it read before'; 0 by the template 'total and deterministic' (their statements: YtcicfijpfhbcaaaTotals.lean).
  GIVEN WITH THE SEED: the statements are not yours to turn. If you find one false, say at which input.
  Laid BY PROGRAM, IN A SANDBOX (cutbox-rows.mjs): the forced cells as the released guide's own fill.sh prints them over the translation 55e79dae8e6d40d5… (all of the seat's roots in one cut). By AI agents, Wed Nov 11 2026. No macro, syntax, notation, axiom, sorry.
-/
import Derived.Test.YtcicfijpfhbcaaaChecked
import GoSem.Claim
import GoSem.ClaimJoined
import GoSem.ClaimMapViews
import Derived.JoinedTies
import Derived.KernelRfl
namespace Go.Proofs.Ytcicfijpfhbcaaa
/- THE CELL 'sum', in the pinned program and in every row, IS THE sha256 OF THE DUMP (.gsa) THAT YtcicfijpfhbcaaaProg.lean LOADS. Nothing in Lean hashes anything: it is a label: what it is worth is what the hold of that sum in a sandbox is worth. -/
noncomputable def Try.pinned : Pinned := { name := "ytcicfijpfhbcaaa", sum := "55e79dae8e6d40d5cfdfb03e205614f4d72bac982bf59824f09121613badb74c", checked := Try.checked }
namespace Rows
def none {H : Type} : Left H := { results := [], args := [] }

/-- 'estoverslaw04.RadixChecks': WHATEVER THE INPUT: true; the input reads as it did. -/
def radixChecksSpec : ChangeSpec := { name := "radixChecks", fn := fun _ => fun
  | [d] => { results := [.lit (.bool true)], args := [d] }
  | _ => none }
def radixChecksRow : OpenClaim := { program := "ytcicfijpfhbcaaa", sum := "55e79dae8e6d40d5cfdfb03e205614f4d72bac982bf59824f09121613badb74c", func := "estovers/estoverslaw04.RadixChecks", spec := "radixChecks", unfollowed := true, recurses := true, loops := true, apart := false }
def RadixChecksSaid : Prop := radixChecksRow.holds Try.pinned (OpenSpec.ofChange radixChecksSpec)

/-- ITS FALSE NEIGHBOUR: 'it returns false'. Refute it at one input. -/
def radixChecksWrong : ChangeSpec := { name := "radixChecks", fn := fun _ => fun
  | [d] => { results := [.lit (.bool false)], args := [d] }
  | _ => none }
def RadixChecksWrongFalsely : Prop := radixChecksRow.holds Try.pinned (OpenSpec.ofChange radixChecksWrong)

/-- 'estoverslaw04.RadixSets': WHATEVER THE INPUT: true; the input reads as it did. -/
def radixSetsSpec : ChangeSpec := { name := "radixSets", fn := fun _ => fun
  | [d1, d2, d3] => { results := [.lit (.bool true)], args := [d1, d2, d3] }
  | _ => none }
def radixSetsRow : OpenClaim := { program := "ytcicfijpfhbcaaa", sum := "55e79dae8e6d40d5cfdfb03e205614f4d72bac982bf59824f09121613badb74c", func := "estovers/estoverslaw04.RadixSets", spec := "radixSets", unfollowed := true, recurses := true, loops := true, apart := false }
def RadixSetsSaid : Prop := radixSetsRow.holds Try.pinned (OpenSpec.ofChange radixSetsSpec)

/-- ITS FALSE NEIGHBOUR: 'it returns false'. Refute it at one input. -/
def radixSetsWrong : ChangeSpec := { name := "radixSets", fn := fun _ => fun
  | [d1, d2, d3] => { results := [.lit (.bool false)], args := [d1, d2, d3] }
  | _ => none }
def RadixSetsWrongFalsely : Prop := radixSetsRow.holds Try.pinned (OpenSpec.ofChange radixSetsWrong)

/-- 'estoverslaw04.RadixOrder': WHATEVER THE INPUT: true; the input reads as it did. -/
def radixOrderSpec : ChangeSpec := { name := "radixOrder", fn := fun _ => fun
  | [d] => { results := [.lit (.bool true)], args := [d] }
  | _ => none }
def radixOrderRow : OpenClaim := { program := "ytcicfijpfhbcaaa", sum := "55e79dae8e6d40d5cfdfb03e205614f4d72bac982bf59824f09121613badb74c", func := "estovers/estoverslaw04.RadixOrder", spec := "radixOrder", unfollowed := true, recurses := true, apart := false }
def RadixOrderSaid : Prop := radixOrderRow.holds Try.pinned (OpenSpec.ofChange radixOrderSpec)

/-- ITS FALSE NEIGHBOUR: 'it returns false'. Refute it at one input. -/
def radixOrderWrong : ChangeSpec := { name := "radixOrder", fn := fun _ => fun
  | [d] => { results := [.lit (.bool false)], args := [d] }
  | _ => none }
def RadixOrderWrongFalsely : Prop := radixOrderRow.holds Try.pinned (OpenSpec.ofChange radixOrderWrong)

/-- 'estoverslaw04.RadixEmpties': WHATEVER THE INPUT: true; the input reads as it did. -/
def radixEmptiesSpec : ChangeSpec := { name := "radixEmpties", fn := fun _ => fun
  | [d] => { results := [.lit (.bool true)], args := [d] }
  | _ => none }
def radixEmptiesRow : OpenClaim := { program := "ytcicfijpfhbcaaa", sum := "55e79dae8e6d40d5cfdfb03e205614f4d72bac982bf59824f09121613badb74c", func := "estovers/estoverslaw04.RadixEmpties", spec := "radixEmpties", unfollowed := true, recurses := true, apart := false }
def RadixEmptiesSaid : Prop := radixEmptiesRow.holds Try.pinned (OpenSpec.ofChange radixEmptiesSpec)

/-- ITS FALSE NEIGHBOUR: 'it returns false'. Refute it at one input. -/
def radixEmptiesWrong : ChangeSpec := { name := "radixEmpties", fn := fun _ => fun
  | [d] => { results := [.lit (.bool false)], args := [d] }
  | _ => none }
def RadixEmptiesWrongFalsely : Prop := radixEmptiesRow.holds Try.pinned (OpenSpec.ofChange radixEmptiesWrong)

/-- 'estoverslaw04.RadixWalk': WHATEVER THE INPUT: true; the input reads as it did. -/
def radixWalkSpec : ChangeSpec := { name := "radixWalk", fn := fun _ => fun
  | [d1, d2] => { results := [.lit (.bool true)], args := [d1, d2] }
  | _ => none }
def radixWalkRow : OpenClaim := { program := "ytcicfijpfhbcaaa", sum := "55e79dae8e6d40d5cfdfb03e205614f4d72bac982bf59824f09121613badb74c", func := "estovers/estoverslaw04.RadixWalk", spec := "radixWalk", unfollowed := true, recurses := true, loops := true, apart := false }
def RadixWalkSaid : Prop := radixWalkRow.holds Try.pinned (OpenSpec.ofChange radixWalkSpec)

/-- ITS FALSE NEIGHBOUR: 'it returns false'. Refute it at one input. -/
def radixWalkWrong : ChangeSpec := { name := "radixWalk", fn := fun _ => fun
  | [d1, d2] => { results := [.lit (.bool false)], args := [d1, d2] }
  | _ => none }
def RadixWalkWrongFalsely : Prop := radixWalkRow.holds Try.pinned (OpenSpec.ofChange radixWalkWrong)

/-- 'estoverslaw04.RadixTags': WHATEVER THE INPUT: true; the input reads as it did. -/
def radixTagsSpec : ChangeSpec := { name := "radixTags", fn := fun _ => fun
  | [d1, d2, d3] => { results := [.lit (.bool true)], args := [d1, d2, d3] }
  | _ => none }
def radixTagsRow : OpenClaim := { program := "ytcicfijpfhbcaaa", sum := "55e79dae8e6d40d5cfdfb03e205614f4d72bac982bf59824f09121613badb74c", func := "estovers/estoverslaw04.RadixTags", spec := "radixTags", unfollowed := true, recurses := true, loops := true, apart := false }
def RadixTagsSaid : Prop := radixTagsRow.holds Try.pinned (OpenSpec.ofChange radixTagsSpec)

/-- ITS FALSE NEIGHBOUR: 'it returns false'. Refute it at one input. -/
def radixTagsWrong : ChangeSpec := { name := "radixTags", fn := fun _ => fun
  | [d1, d2, d3] => { results := [.lit (.bool false)], args := [d1, d2, d3] }
  | _ => none }
def RadixTagsWrongFalsely : Prop := radixTagsRow.holds Try.pinned (OpenSpec.ofChange radixTagsWrong)

/-- 'estoverslaw04.RadixNexts': WHATEVER THE INPUT: true; the input reads as it did. -/
def radixNextsSpec : ChangeSpec := { name := "radixNexts", fn := fun _ => fun
  | [d1, d2, d3] => { results := [.lit (.bool true)], args := [d1, d2, d3] }
  | _ => none }
def radixNextsRow : OpenClaim := { program := "ytcicfijpfhbcaaa", sum := "55e79dae8e6d40d5cfdfb03e205614f4d72bac982bf59824f09121613badb74c", func := "estovers/estoverslaw04.RadixNexts", spec := "radixNexts", unfollowed := true, recurses := true, loops := true, apart := false }
def RadixNextsSaid : Prop := radixNextsRow.holds Try.pinned (OpenSpec.ofChange radixNextsSpec)

/-- ITS FALSE NEIGHBOUR: 'it returns false'. Refute it at one input. -/
def radixNextsWrong : ChangeSpec := { name := "radixNexts", fn := fun _ => fun
  | [d1, d2, d3] => { results := [.lit (.bool false)], args := [d1, d2, d3] }
  | _ => none }
def RadixNextsWrongFalsely : Prop := radixNextsRow.holds Try.pinned (OpenSpec.ofChange radixNextsWrong)

/-- 'estoverslaw04.RadixPlays': WHATEVER THE INPUT: true; the input reads as it did. -/
def radixPlaysSpec : ChangeSpec := { name := "radixPlays", fn := fun _ => fun
  | [d] => { results := [.lit (.bool true)], args := [d] }
  | _ => none }
def radixPlaysRow : OpenClaim := { program := "ytcicfijpfhbcaaa", sum := "55e79dae8e6d40d5cfdfb03e205614f4d72bac982bf59824f09121613badb74c", func := "estovers/estoverslaw04.RadixPlays", spec := "radixPlays", unfollowed := true, recurses := true, apart := false }
def RadixPlaysSaid : Prop := radixPlaysRow.holds Try.pinned (OpenSpec.ofChange radixPlaysSpec)

/-- ITS FALSE NEIGHBOUR: 'it returns false'. Refute it at one input. -/
def radixPlaysWrong : ChangeSpec := { name := "radixPlays", fn := fun _ => fun
  | [d] => { results := [.lit (.bool false)], args := [d] }
  | _ => none }
def RadixPlaysWrongFalsely : Prop := radixPlaysRow.holds Try.pinned (OpenSpec.ofChange radixPlaysWrong)

/-- 'estoverslaw28.FilecacheAsks': WHATEVER THE INPUT: true; the input reads as it did. -/
def filecacheAsksSpec : ChangeSpec := { name := "filecacheAsks", fn := fun _ => fun
  | [d1, d2] => { results := [.lit (.bool true)], args := [d1, d2] }
  | _ => none }
def filecacheAsksRow : OpenClaim := { program := "ytcicfijpfhbcaaa", sum := "55e79dae8e6d40d5cfdfb03e205614f4d72bac982bf59824f09121613badb74c", func := "estovers/estoverslaw28.FilecacheAsks", spec := "filecacheAsks", unfollowed := true, recurses := true, loops := true, apart := false }
def FilecacheAsksSaid : Prop := filecacheAsksRow.holds Try.pinned (OpenSpec.ofChange filecacheAsksSpec)

/-- ITS FALSE NEIGHBOUR: 'it returns false'. Refute it at one input. -/
def filecacheAsksWrong : ChangeSpec := { name := "filecacheAsks", fn := fun _ => fun
  | [d1, d2] => { results := [.lit (.bool false)], args := [d1, d2] }
  | _ => none }
def FilecacheAsksWrongFalsely : Prop := filecacheAsksRow.holds Try.pinned (OpenSpec.ofChange filecacheAsksWrong)

/-- 'estoverslaw28.FilecacheTruncates': WHATEVER THE INPUT: true; the input reads as it did. -/
def filecacheTruncatesSpec : ChangeSpec := { name := "filecacheTruncates", fn := fun _ => fun
  | [d1, d2] => { results := [.lit (.bool true)], args := [d1, d2] }
  | _ => none }
def filecacheTruncatesRow : OpenClaim := { program := "ytcicfijpfhbcaaa", sum := "55e79dae8e6d40d5cfdfb03e205614f4d72bac982bf59824f09121613badb74c", func := "estovers/estoverslaw28.FilecacheTruncates", spec := "filecacheTruncates", unfollowed := true, recurses := true, loops := true, apart := false }
def FilecacheTruncatesSaid : Prop := filecacheTruncatesRow.holds Try.pinned (OpenSpec.ofChange filecacheTruncatesSpec)

/-- ITS FALSE NEIGHBOUR: 'it returns false'. Refute it at one input. -/
def filecacheTruncatesWrong : ChangeSpec := { name := "filecacheTruncates", fn := fun _ => fun
  | [d1, d2] => { results := [.lit (.bool false)], args := [d1, d2] }
  | _ => none }
def FilecacheTruncatesWrongFalsely : Prop := filecacheTruncatesRow.holds Try.pinned (OpenSpec.ofChange filecacheTruncatesWrong)

/-- 'estoverslaw28.FilecacheRemoves': WHATEVER THE INPUT: true; the input reads as it did. -/
def filecacheRemovesSpec : ChangeSpec := { name := "filecacheRemoves", fn := fun _ => fun
  | [d1, d2, d3] => { results := [.lit (.bool true)], args := [d1, d2, d3] }
  | _ => none }
def filecacheRemovesRow : OpenClaim := { program := "ytcicfijpfhbcaaa", sum := "55e79dae8e6d40d5cfdfb03e205614f4d72bac982bf59824f09121613badb74c", func := "estovers/estoverslaw28.FilecacheRemoves", spec := "filecacheRemoves", unfollowed := true, recurses := true, loops := true, apart := false }
def FilecacheRemovesSaid : Prop := filecacheRemovesRow.holds Try.pinned (OpenSpec.ofChange filecacheRemovesSpec)

/-- ITS FALSE NEIGHBOUR: 'it returns false'. Refute it at one input. -/
def filecacheRemovesWrong : ChangeSpec := { name := "filecacheRemoves", fn := fun _ => fun
  | [d1, d2, d3] => { results := [.lit (.bool false)], args := [d1, d2, d3] }
  | _ => none }
def FilecacheRemovesWrongFalsely : Prop := filecacheRemovesRow.holds Try.pinned (OpenSpec.ofChange filecacheRemovesWrong)

/-- 'estoverslaw28.FilecachePuts': WHATEVER THE INPUT: true; the input reads as it did. -/
def filecachePutsSpec : ChangeSpec := { name := "filecachePuts", fn := fun _ => fun
  | [d1, d2, d3] => { results := [.lit (.bool true)], args := [d1, d2, d3] }
  | _ => none }
def filecachePutsRow : OpenClaim := { program := "ytcicfijpfhbcaaa", sum := "55e79dae8e6d40d5cfdfb03e205614f4d72bac982bf59824f09121613badb74c", func := "estovers/estoverslaw28.FilecachePuts", spec := "filecachePuts", unfollowed := true, recurses := true, loops := true, apart := false }
def FilecachePutsSaid : Prop := filecachePutsRow.holds Try.pinned (OpenSpec.ofChange filecachePutsSpec)

/-- ITS FALSE NEIGHBOUR: 'it returns false'. Refute it at one input. -/
def filecachePutsWrong : ChangeSpec := { name := "filecachePuts", fn := fun _ => fun
  | [d1, d2, d3] => { results := [.lit (.bool false)], args := [d1, d2, d3] }
  | _ => none }
def FilecachePutsWrongFalsely : Prop := filecachePutsRow.holds Try.pinned (OpenSpec.ofChange filecachePutsWrong)

/-- 'estoverslaw28.FilecacheMap': WHATEVER THE INPUT: true; the input reads as it did. -/
def filecacheMapSpec : ChangeSpec := { name := "filecacheMap", fn := fun _ => fun
  | [d] => { results := [.lit (.bool true)], args := [d] }
  | _ => none }
def filecacheMapRow : OpenClaim := { program := "ytcicfijpfhbcaaa", sum := "55e79dae8e6d40d5cfdfb03e205614f4d72bac982bf59824f09121613badb74c", func := "estovers/estoverslaw28.FilecacheMap", spec := "filecacheMap", unfollowed := true, recurses := true, apart := false }
def FilecacheMapSaid : Prop := filecacheMapRow.holds Try.pinned (OpenSpec.ofChange filecacheMapSpec)

/-- ITS FALSE NEIGHBOUR: 'it returns false'. Refute it at one input. -/
def filecacheMapWrong : ChangeSpec := { name := "filecacheMap", fn := fun _ => fun
  | [d] => { results := [.lit (.bool false)], args := [d] }
  | _ => none }
def FilecacheMapWrongFalsely : Prop := filecacheMapRow.holds Try.pinned (OpenSpec.ofChange filecacheMapWrong)

/-- 'estoverslaw28.FilecacheCuts': WHATEVER THE INPUT: true; the input reads as it did. -/
def filecacheCutsSpec : ChangeSpec := { name := "filecacheCuts", fn := fun _ => fun
  | [d1, d2] => { results := [.lit (.bool true)], args := [d1, d2] }
  | _ => none }
def filecacheCutsRow : OpenClaim := { program := "ytcicfijpfhbcaaa", sum := "55e79dae8e6d40d5cfdfb03e205614f4d72bac982bf59824f09121613badb74c", func := "estovers/estoverslaw28.FilecacheCuts", spec := "filecacheCuts", unfollowed := true, recurses := true, apart := false }
def FilecacheCutsSaid : Prop := filecacheCutsRow.holds Try.pinned (OpenSpec.ofChange filecacheCutsSpec)

/-- ITS FALSE NEIGHBOUR: 'it returns false'. Refute it at one input. -/
def filecacheCutsWrong : ChangeSpec := { name := "filecacheCuts", fn := fun _ => fun
  | [d1, d2] => { results := [.lit (.bool false)], args := [d1, d2] }
  | _ => none }
def FilecacheCutsWrongFalsely : Prop := filecacheCutsRow.holds Try.pinned (OpenSpec.ofChange filecacheCutsWrong)

/- THE SECOND FORM. 'bulk': how many values and letters a reading holds, each counted each time it is reached (what is shared counts as often as it is met; a slice's spare places count too). A statement '..UptoSaid' is the law's where the arguments, and the package variables that the reading takes, are together of bulk at most 1048576: NARROWER than '..Said'. Prove '..Said' where nothing that the law and all that it calls make is longer than what came in: it says more and counts as full. Else prove '..UptoSaid'. A law counts once. -/
mutual
def uptoBulk {H : Type} : DataW H → Nat
  | .lit (.string bytes) => bytes.length + 1
  | .lit _ => 1
  | .nil => 1
  | .ptr d => uptoBulk d + 1
  | .slice elems spare => uptoBulkAll elems + uptoBulkAll spare + 1
  | .agg parts => uptoBulkAll parts + 1
  | .iface _ d => uptoBulk d + 1
  | .map entries => uptoBulkEntries entries + 1
  | .held _ => 1
def uptoBulkAll {H : Type} : List (DataW H) → Nat
  | [] => 0
  | d :: r => uptoBulk d + uptoBulkAll r
def uptoBulkEntries {H : Type} : List (Lit × DataW H) → Nat
  | [] => 0
  | x :: r => uptoBulkEntry x + uptoBulkEntries r
def uptoBulkEntry {H : Type} : Lit × DataW H → Nat
  | (.string bytes, d) => bytes.length + uptoBulk d + 1
  | (_, d) => uptoBulk d + 1
 end
def uptoSmall : (H : Type) → List (DataW H) → Bool := fun _ ds => decide (uptoBulkAll ds ≤ 1048576)
def OpenSpec.upto (s : _root_.Go.ChangeSpec) : _root_.Go.OpenSpec := { _root_.Go.OpenSpec.ofChange s with cond := some uptoSmall }

/-- 'estoverslaw04.RadixChecks', WHERE WHAT IT READS IS OF BULK AT MOST 1048576: true; the input reads as it did. -/
def radixChecksUptoRow : OpenClaim := { program := "ytcicfijpfhbcaaa", sum := "55e79dae8e6d40d5cfdfb03e205614f4d72bac982bf59824f09121613badb74c", func := "estovers/estoverslaw04.RadixChecks", spec := "radixChecks", unfollowed := true, recurses := true, loops := true, apart := false, narrowed := true }
def RadixChecksUptoSaid : Prop := radixChecksUptoRow.holds Try.pinned (OpenSpec.upto radixChecksSpec)

/-- 'estoverslaw04.RadixSets', WHERE WHAT IT READS IS OF BULK AT MOST 1048576: true; the input reads as it did. -/
def radixSetsUptoRow : OpenClaim := { program := "ytcicfijpfhbcaaa", sum := "55e79dae8e6d40d5cfdfb03e205614f4d72bac982bf59824f09121613badb74c", func := "estovers/estoverslaw04.RadixSets", spec := "radixSets", unfollowed := true, recurses := true, loops := true, apart := false, narrowed := true }
def RadixSetsUptoSaid : Prop := radixSetsUptoRow.holds Try.pinned (OpenSpec.upto radixSetsSpec)

/-- 'estoverslaw04.RadixOrder', WHERE WHAT IT READS IS OF BULK AT MOST 1048576: true; the input reads as it did. -/
def radixOrderUptoRow : OpenClaim := { program := "ytcicfijpfhbcaaa", sum := "55e79dae8e6d40d5cfdfb03e205614f4d72bac982bf59824f09121613badb74c", func := "estovers/estoverslaw04.RadixOrder", spec := "radixOrder", unfollowed := true, recurses := true, apart := false, narrowed := true }
def RadixOrderUptoSaid : Prop := radixOrderUptoRow.holds Try.pinned (OpenSpec.upto radixOrderSpec)

/-- 'estoverslaw04.RadixEmpties', WHERE WHAT IT READS IS OF BULK AT MOST 1048576: true; the input reads as it did. -/
def radixEmptiesUptoRow : OpenClaim := { program := "ytcicfijpfhbcaaa", sum := "55e79dae8e6d40d5cfdfb03e205614f4d72bac982bf59824f09121613badb74c", func := "estovers/estoverslaw04.RadixEmpties", spec := "radixEmpties", unfollowed := true, recurses := true, apart := false, narrowed := true }
def RadixEmptiesUptoSaid : Prop := radixEmptiesUptoRow.holds Try.pinned (OpenSpec.upto radixEmptiesSpec)

/-- 'estoverslaw04.RadixWalk', WHERE WHAT IT READS IS OF BULK AT MOST 1048576: true; the input reads as it did. -/
def radixWalkUptoRow : OpenClaim := { program := "ytcicfijpfhbcaaa", sum := "55e79dae8e6d40d5cfdfb03e205614f4d72bac982bf59824f09121613badb74c", func := "estovers/estoverslaw04.RadixWalk", spec := "radixWalk", unfollowed := true, recurses := true, loops := true, apart := false, narrowed := true }
def RadixWalkUptoSaid : Prop := radixWalkUptoRow.holds Try.pinned (OpenSpec.upto radixWalkSpec)

/-- 'estoverslaw04.RadixTags', WHERE WHAT IT READS IS OF BULK AT MOST 1048576: true; the input reads as it did. -/
def radixTagsUptoRow : OpenClaim := { program := "ytcicfijpfhbcaaa", sum := "55e79dae8e6d40d5cfdfb03e205614f4d72bac982bf59824f09121613badb74c", func := "estovers/estoverslaw04.RadixTags", spec := "radixTags", unfollowed := true, recurses := true, loops := true, apart := false, narrowed := true }
def RadixTagsUptoSaid : Prop := radixTagsUptoRow.holds Try.pinned (OpenSpec.upto radixTagsSpec)

/-- 'estoverslaw04.RadixNexts', WHERE WHAT IT READS IS OF BULK AT MOST 1048576: true; the input reads as it did. -/
def radixNextsUptoRow : OpenClaim := { program := "ytcicfijpfhbcaaa", sum := "55e79dae8e6d40d5cfdfb03e205614f4d72bac982bf59824f09121613badb74c", func := "estovers/estoverslaw04.RadixNexts", spec := "radixNexts", unfollowed := true, recurses := true, loops := true, apart := false, narrowed := true }
def RadixNextsUptoSaid : Prop := radixNextsUptoRow.holds Try.pinned (OpenSpec.upto radixNextsSpec)

/-- 'estoverslaw04.RadixPlays', WHERE WHAT IT READS IS OF BULK AT MOST 1048576: true; the input reads as it did. -/
def radixPlaysUptoRow : OpenClaim := { program := "ytcicfijpfhbcaaa", sum := "55e79dae8e6d40d5cfdfb03e205614f4d72bac982bf59824f09121613badb74c", func := "estovers/estoverslaw04.RadixPlays", spec := "radixPlays", unfollowed := true, recurses := true, apart := false, narrowed := true }
def RadixPlaysUptoSaid : Prop := radixPlaysUptoRow.holds Try.pinned (OpenSpec.upto radixPlaysSpec)

/-- 'estoverslaw28.FilecacheAsks', WHERE WHAT IT READS IS OF BULK AT MOST 1048576: true; the input reads as it did. -/
def filecacheAsksUptoRow : OpenClaim := { program := "ytcicfijpfhbcaaa", sum := "55e79dae8e6d40d5cfdfb03e205614f4d72bac982bf59824f09121613badb74c", func := "estovers/estoverslaw28.FilecacheAsks", spec := "filecacheAsks", unfollowed := true, recurses := true, loops := true, apart := false, narrowed := true }
def FilecacheAsksUptoSaid : Prop := filecacheAsksUptoRow.holds Try.pinned (OpenSpec.upto filecacheAsksSpec)

/-- 'estoverslaw28.FilecacheTruncates', WHERE WHAT IT READS IS OF BULK AT MOST 1048576: true; the input reads as it did. -/
def filecacheTruncatesUptoRow : OpenClaim := { program := "ytcicfijpfhbcaaa", sum := "55e79dae8e6d40d5cfdfb03e205614f4d72bac982bf59824f09121613badb74c", func := "estovers/estoverslaw28.FilecacheTruncates", spec := "filecacheTruncates", unfollowed := true, recurses := true, loops := true, apart := false, narrowed := true }
def FilecacheTruncatesUptoSaid : Prop := filecacheTruncatesUptoRow.holds Try.pinned (OpenSpec.upto filecacheTruncatesSpec)

/-- 'estoverslaw28.FilecacheRemoves', WHERE WHAT IT READS IS OF BULK AT MOST 1048576: true; the input reads as it did. -/
def filecacheRemovesUptoRow : OpenClaim := { program := "ytcicfijpfhbcaaa", sum := "55e79dae8e6d40d5cfdfb03e205614f4d72bac982bf59824f09121613badb74c", func := "estovers/estoverslaw28.FilecacheRemoves", spec := "filecacheRemoves", unfollowed := true, recurses := true, loops := true, apart := false, narrowed := true }
def FilecacheRemovesUptoSaid : Prop := filecacheRemovesUptoRow.holds Try.pinned (OpenSpec.upto filecacheRemovesSpec)

/-- 'estoverslaw28.FilecachePuts', WHERE WHAT IT READS IS OF BULK AT MOST 1048576: true; the input reads as it did. -/
def filecachePutsUptoRow : OpenClaim := { program := "ytcicfijpfhbcaaa", sum := "55e79dae8e6d40d5cfdfb03e205614f4d72bac982bf59824f09121613badb74c", func := "estovers/estoverslaw28.FilecachePuts", spec := "filecachePuts", unfollowed := true, recurses := true, loops := true, apart := false, narrowed := true }
def FilecachePutsUptoSaid : Prop := filecachePutsUptoRow.holds Try.pinned (OpenSpec.upto filecachePutsSpec)

/-- 'estoverslaw28.FilecacheMap', WHERE WHAT IT READS IS OF BULK AT MOST 1048576: true; the input reads as it did. -/
def filecacheMapUptoRow : OpenClaim := { program := "ytcicfijpfhbcaaa", sum := "55e79dae8e6d40d5cfdfb03e205614f4d72bac982bf59824f09121613badb74c", func := "estovers/estoverslaw28.FilecacheMap", spec := "filecacheMap", unfollowed := true, recurses := true, apart := false, narrowed := true }
def FilecacheMapUptoSaid : Prop := filecacheMapUptoRow.holds Try.pinned (OpenSpec.upto filecacheMapSpec)

/-- 'estoverslaw28.FilecacheCuts', WHERE WHAT IT READS IS OF BULK AT MOST 1048576: true; the input reads as it did. -/
def filecacheCutsUptoRow : OpenClaim := { program := "ytcicfijpfhbcaaa", sum := "55e79dae8e6d40d5cfdfb03e205614f4d72bac982bf59824f09121613badb74c", func := "estovers/estoverslaw28.FilecacheCuts", spec := "filecacheCuts", unfollowed := true, recurses := true, apart := false, narrowed := true }
def FilecacheCutsUptoSaid : Prop := filecacheCutsUptoRow.holds Try.pinned (OpenSpec.upto filecacheCutsSpec)

end Rows
end Go.Proofs.Ytcicfijpfhbcaaa
