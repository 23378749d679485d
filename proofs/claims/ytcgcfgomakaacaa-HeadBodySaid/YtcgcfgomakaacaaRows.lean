/-
  No cell of these rows narrows 'for every input' (looked for: loops, veiled, ifaces, maps, wideKeys, modest, calm, conditions, laid).
  DERIVED. THE GIVEN ROWS OF THIS SEAT. 6 by the template 'for every input the law returns true; each argument reads behind the call as it read before'; 0 by the template 'total and deterministic' (their statements: YtcgcfgomakaacaaTotals.lean).
  GIVEN WITH THE SEED: the statements are not yours to turn. If you find one false, say at which input.
  Laid BY PROGRAM, IN A SANDBOX (cutbox-rows.mjs): the forced cells as the released guide's own fill.sh prints them over the translation ed6b3c6c9b7c1aa0… (all of the seat's roots in one cut). By AI agents, Wed Nov 11 2026. No macro, syntax, notation, axiom, sorry.
-/
import Derived.Test.YtcgcfgomakaacaaChecked
import GoSem.Claim
import GoSem.ClaimJoined
import GoSem.ClaimMapViews
import Derived.JoinedTies
import Derived.KernelRfl
namespace Go.Proofs.Ytcgcfgomakaacaa
/- THE CELL 'sum', in the pinned program and in every row, IS THE sha256 OF THE DUMP (.gsa) THAT YtcgcfgomakaacaaProg.lean LOADS. Nothing in Lean hashes anything: it is a label: what it is worth is what the hold of that sum in a sandbox is worth. -/
noncomputable def Try.pinned : Pinned := { name := "ytcgcfgomakaacaa", sum := "ed6b3c6c9b7c1aa064343ab85cfe6d77b9039afbadeab2feb60ef9f84eef6dc4", checked := Try.checked }
namespace Rows
def none {H : Type} : Left H := { results := [], args := [] }

/-- 'tollerlaw19.HeadAsks': WHATEVER THE INPUT: true; the input reads as it did. -/
def headAsksSpec : ChangeSpec := { name := "headAsks", fn := fun _ => fun
  | [d1, d2] => { results := [.lit (.bool true)], args := [d1, d2] }
  | _ => none }
def headAsksRow : OpenClaim := { program := "ytcgcfgomakaacaa", sum := "ed6b3c6c9b7c1aa064343ab85cfe6d77b9039afbadeab2feb60ef9f84eef6dc4", func := "toller/tollerlaw19.HeadAsks", spec := "headAsks", inPlace := ["internal/abi.NoEscape"], apart := false }
def HeadAsksSaid : Prop := headAsksRow.holds Try.pinned (OpenSpec.ofChange headAsksSpec)

/-- ITS FALSE NEIGHBOUR: 'it returns false'. Refute it at one input. -/
def headAsksWrong : ChangeSpec := { name := "headAsks", fn := fun _ => fun
  | [d1, d2] => { results := [.lit (.bool false)], args := [d1, d2] }
  | _ => none }
def HeadAsksWrongFalsely : Prop := headAsksRow.holds Try.pinned (OpenSpec.ofChange headAsksWrong)

/-- 'tollerlaw19.HeadClean': WHATEVER THE INPUT: true; the input reads as it did. -/
def headCleanSpec : ChangeSpec := { name := "headClean", fn := fun _ => fun
  | [d1, d2, d3] => { results := [.lit (.bool true)], args := [d1, d2, d3] }
  | _ => none }
def headCleanRow : OpenClaim := { program := "ytcgcfgomakaacaa", sum := "ed6b3c6c9b7c1aa064343ab85cfe6d77b9039afbadeab2feb60ef9f84eef6dc4", func := "toller/tollerlaw19.HeadClean", spec := "headClean", inPlace := ["internal/abi.NoEscape"], apart := false }
def HeadCleanSaid : Prop := headCleanRow.holds Try.pinned (OpenSpec.ofChange headCleanSpec)

/-- ITS FALSE NEIGHBOUR: 'it returns false'. Refute it at one input. -/
def headCleanWrong : ChangeSpec := { name := "headClean", fn := fun _ => fun
  | [d1, d2, d3] => { results := [.lit (.bool false)], args := [d1, d2, d3] }
  | _ => none }
def HeadCleanWrongFalsely : Prop := headCleanRow.holds Try.pinned (OpenSpec.ofChange headCleanWrong)

/-- 'tollerlaw19.HeadCodes': WHATEVER THE INPUT: true; the input reads as it did. -/
def headCodesSpec : ChangeSpec := { name := "headCodes", fn := fun _ => fun
  | [d1, d2, d3, d4] => { results := [.lit (.bool true)], args := [d1, d2, d3, d4] }
  | _ => none }
def headCodesRow : OpenClaim := { program := "ytcgcfgomakaacaa", sum := "ed6b3c6c9b7c1aa064343ab85cfe6d77b9039afbadeab2feb60ef9f84eef6dc4", func := "toller/tollerlaw19.HeadCodes", spec := "headCodes", inPlace := ["internal/abi.NoEscape"], apart := false }
def HeadCodesSaid : Prop := headCodesRow.holds Try.pinned (OpenSpec.ofChange headCodesSpec)

/-- ITS FALSE NEIGHBOUR: 'it returns false'. Refute it at one input. -/
def headCodesWrong : ChangeSpec := { name := "headCodes", fn := fun _ => fun
  | [d1, d2, d3, d4] => { results := [.lit (.bool false)], args := [d1, d2, d3, d4] }
  | _ => none }
def HeadCodesWrongFalsely : Prop := headCodesRow.holds Try.pinned (OpenSpec.ofChange headCodesWrong)

/-- 'tollerlaw19.HeadBody': WHATEVER THE INPUT: true; the input reads as it did. -/
def headBodySpec : ChangeSpec := { name := "headBody", fn := fun _ => fun
  | [d1, d2] => { results := [.lit (.bool true)], args := [d1, d2] }
  | _ => none }
def headBodyRow : OpenClaim := { program := "ytcgcfgomakaacaa", sum := "ed6b3c6c9b7c1aa064343ab85cfe6d77b9039afbadeab2feb60ef9f84eef6dc4", func := "toller/tollerlaw19.HeadBody", spec := "headBody", inPlace := ["internal/abi.NoEscape"], apart := false }
def HeadBodySaid : Prop := headBodyRow.holds Try.pinned (OpenSpec.ofChange headBodySpec)

/-- ITS FALSE NEIGHBOUR: 'it returns false'. Refute it at one input. -/
def headBodyWrong : ChangeSpec := { name := "headBody", fn := fun _ => fun
  | [d1, d2] => { results := [.lit (.bool false)], args := [d1, d2] }
  | _ => none }
def HeadBodyWrongFalsely : Prop := headBodyRow.holds Try.pinned (OpenSpec.ofChange headBodyWrong)

/-- 'tollerlaw19.HeadNumbers': WHATEVER THE INPUT: true; the input reads as it did. -/
def headNumbersSpec : ChangeSpec := { name := "headNumbers", fn := fun _ => fun
  | [d1, d2, d3] => { results := [.lit (.bool true)], args := [d1, d2, d3] }
  | _ => none }
def headNumbersRow : OpenClaim := { program := "ytcgcfgomakaacaa", sum := "ed6b3c6c9b7c1aa064343ab85cfe6d77b9039afbadeab2feb60ef9f84eef6dc4", func := "toller/tollerlaw19.HeadNumbers", spec := "headNumbers", inPlace := ["internal/abi.NoEscape"], apart := false }
def HeadNumbersSaid : Prop := headNumbersRow.holds Try.pinned (OpenSpec.ofChange headNumbersSpec)

/-- ITS FALSE NEIGHBOUR: 'it returns false'. Refute it at one input. -/
def headNumbersWrong : ChangeSpec := { name := "headNumbers", fn := fun _ => fun
  | [d1, d2, d3] => { results := [.lit (.bool false)], args := [d1, d2, d3] }
  | _ => none }
def HeadNumbersWrongFalsely : Prop := headNumbersRow.holds Try.pinned (OpenSpec.ofChange headNumbersWrong)

/-- 'tollerlaw19.HeadHides': WHATEVER THE INPUT: true; the input reads as it did. -/
def headHidesSpec : ChangeSpec := { name := "headHides", fn := fun _ => fun
  | [d1, d2] => { results := [.lit (.bool true)], args := [d1, d2] }
  | _ => none }
def headHidesRow : OpenClaim := { program := "ytcgcfgomakaacaa", sum := "ed6b3c6c9b7c1aa064343ab85cfe6d77b9039afbadeab2feb60ef9f84eef6dc4", func := "toller/tollerlaw19.HeadHides", spec := "headHides", inPlace := ["internal/abi.NoEscape"], apart := false }
def HeadHidesSaid : Prop := headHidesRow.holds Try.pinned (OpenSpec.ofChange headHidesSpec)

/-- ITS FALSE NEIGHBOUR: 'it returns false'. Refute it at one input. -/
def headHidesWrong : ChangeSpec := { name := "headHides", fn := fun _ => fun
  | [d1, d2] => { results := [.lit (.bool false)], args := [d1, d2] }
  | _ => none }
def HeadHidesWrongFalsely : Prop := headHidesRow.holds Try.pinned (OpenSpec.ofChange headHidesWrong)

/- THE SECOND FORM. 'bulk': how many values and letters a reading holds, each counted each time it is reached (what is shared counts as often as it is met; a slice's spare places count too). A statement '..UptoSaid' is the law's where the arguments, and the package variables that the reading takes, are together of bulk at most 1048576: NARROWER than '..Said'. Prove '..Said' where nothing that the law and all that it calls make is longer than what came in: it says more and counts as full. Else prove '..UptoSaid'. A law counts once. -/
mutual
def uptoBulk {H : Type} : DataW H → Nat
  | .lit (.string bytes) => bytes.length + 1
  | .lit _ => 1
  | .nil => 1
  | .ptr d => uptoBulk d + 1
  | .slice elems spare => uptoBulkAll elems + uptoBulkAll spare + 1
  | .agg parts => uptoBulkAll parts + 1
  | .iface _ d => uptoBulk d + 1
  | .map entries => uptoBulkEntries entries + 1
  | .held _ => 1
def uptoBulkAll {H : Type} : List (DataW H) → Nat
  | [] => 0
  | d :: r => uptoBulk d + uptoBulkAll r
def uptoBulkEntries {H : Type} : List (Lit × DataW H) → Nat
  | [] => 0
  | x :: r => uptoBulkEntry x + uptoBulkEntries r
def uptoBulkEntry {H : Type} : Lit × DataW H → Nat
  | (.string bytes, d) => bytes.length + uptoBulk d + 1
  | (_, d) => uptoBulk d + 1
 end
def uptoSmall : (H : Type) → List (DataW H) → Bool := fun _ ds => decide (uptoBulkAll ds ≤ 1048576)
def OpenSpec.upto (s : _root_.Go.ChangeSpec) : _root_.Go.OpenSpec := { _root_.Go.OpenSpec.ofChange s with cond := some uptoSmall }

/-- 'tollerlaw19.HeadAsks', WHERE WHAT IT READS IS OF BULK AT MOST 1048576: true; the input reads as it did. -/
def headAsksUptoRow : OpenClaim := { program := "ytcgcfgomakaacaa", sum := "ed6b3c6c9b7c1aa064343ab85cfe6d77b9039afbadeab2feb60ef9f84eef6dc4", func := "toller/tollerlaw19.HeadAsks", spec := "headAsks", inPlace := ["internal/abi.NoEscape"], apart := false, narrowed := true }
def HeadAsksUptoSaid : Prop := headAsksUptoRow.holds Try.pinned (OpenSpec.upto headAsksSpec)

/-- 'tollerlaw19.HeadClean', WHERE WHAT IT READS IS OF BULK AT MOST 1048576: true; the input reads as it did. -/
def headCleanUptoRow : OpenClaim := { program := "ytcgcfgomakaacaa", sum := "ed6b3c6c9b7c1aa064343ab85cfe6d77b9039afbadeab2feb60ef9f84eef6dc4", func := "toller/tollerlaw19.HeadClean", spec := "headClean", inPlace := ["internal/abi.NoEscape"], apart := false, narrowed := true }
def HeadCleanUptoSaid : Prop := headCleanUptoRow.holds Try.pinned (OpenSpec.upto headCleanSpec)

/-- 'tollerlaw19.HeadCodes', WHERE WHAT IT READS IS OF BULK AT MOST 1048576: true; the input reads as it did. -/
def headCodesUptoRow : OpenClaim := { program := "ytcgcfgomakaacaa", sum := "ed6b3c6c9b7c1aa064343ab85cfe6d77b9039afbadeab2feb60ef9f84eef6dc4", func := "toller/tollerlaw19.HeadCodes", spec := "headCodes", inPlace := ["internal/abi.NoEscape"], apart := false, narrowed := true }
def HeadCodesUptoSaid : Prop := headCodesUptoRow.holds Try.pinned (OpenSpec.upto headCodesSpec)

/-- 'tollerlaw19.HeadBody', WHERE WHAT IT READS IS OF BULK AT MOST 1048576: true; the input reads as it did. -/
def headBodyUptoRow : OpenClaim := { program := "ytcgcfgomakaacaa", sum := "ed6b3c6c9b7c1aa064343ab85cfe6d77b9039afbadeab2feb60ef9f84eef6dc4", func := "toller/tollerlaw19.HeadBody", spec := "headBody", inPlace := ["internal/abi.NoEscape"], apart := false, narrowed := true }
def HeadBodyUptoSaid : Prop := headBodyUptoRow.holds Try.pinned (OpenSpec.upto headBodySpec)

/-- 'tollerlaw19.HeadNumbers', WHERE WHAT IT READS IS OF BULK AT MOST 1048576: true; the input reads as it did. -/
def headNumbersUptoRow : OpenClaim := { program := "ytcgcfgomakaacaa", sum := "ed6b3c6c9b7c1aa064343ab85cfe6d77b9039afbadeab2feb60ef9f84eef6dc4", func := "toller/tollerlaw19.HeadNumbers", spec := "headNumbers", inPlace := ["internal/abi.NoEscape"], apart := false, narrowed := true }
def HeadNumbersUptoSaid : Prop := headNumbersUptoRow.holds Try.pinned (OpenSpec.upto headNumbersSpec)

/-- 'tollerlaw19.HeadHides', WHERE WHAT IT READS IS OF BULK AT MOST 1048576: true; the input reads as it did. -/
def headHidesUptoRow : OpenClaim := { program := "ytcgcfgomakaacaa", sum := "ed6b3c6c9b7c1aa064343ab85cfe6d77b9039afbadeab2feb60ef9f84eef6dc4", func := "toller/tollerlaw19.HeadHides", spec := "headHides", inPlace := ["internal/abi.NoEscape"], apart := false, narrowed := true }
def HeadHidesUptoSaid : Prop := headHidesUptoRow.holds Try.pinned (OpenSpec.upto headHidesSpec)

end Rows
end Go.Proofs.Ytcgcfgomakaacaa
