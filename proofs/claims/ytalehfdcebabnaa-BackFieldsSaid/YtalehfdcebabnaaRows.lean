/-
  No cell of these rows narrows 'for every input' (looked for: loops, veiled, ifaces, maps, wideKeys, modest, calm, conditions, laid).
  DERIVED. THE GIVEN ROWS OF THIS SEAT. 3 by the template 'for every input the law returns true; each argument reads behind the call as it read before'; 0 by the template 'total and deterministic' (their statements: YtalehfdcebabnaaTotals.lean).
  GIVEN WITH THE SEED: the statements are not yours to turn. If you find one false, say at which input.
  Laid BY PROGRAM, IN A SANDBOX (cutbox-rows.mjs): the forced cells as the released guide's own fill.sh prints them over the translation b4cb9b392df2f254… (all of the seat's roots in one cut). By AI agents, Wed Nov 11 2026. No macro, syntax, notation, axiom, sorry.
-/
import Derived.Test.YtalehfdcebabnaaChecked
import GoSem.Claim
import GoSem.ClaimJoined
import GoSem.ClaimMapViews
import Derived.JoinedTies
import Derived.KernelRfl
namespace Go.Proofs.Ytalehfdcebabnaa
/- THE CELL 'sum', in the pinned program and in every row, IS THE sha256 OF THE DUMP (.gsa) THAT YtalehfdcebabnaaProg.lean LOADS. Nothing in Lean hashes anything: it is a label: what it is worth is what the hold of that sum in a sandbox is worth. -/
noncomputable def Try.pinned : Pinned := { name := "ytalehfdcebabnaa", sum := "b4cb9b392df2f254da5ed4769408a8eb3db95170724cd69fce7178dc9ad07489", checked := Try.checked }
namespace Rows
def none {H : Type} : Left H := { results := [], args := [] }

/-- 'tollerlaw20.BackFields': WHATEVER THE INPUT: true; the input reads as it did. -/
def backFieldsSpec : ChangeSpec := { name := "backFields", fn := fun _ => fun
  | [d1, d2] => { results := [.lit (.bool true)], args := [d1, d2] }
  | _ => none }
def backFieldsRow : OpenClaim := { program := "ytalehfdcebabnaa", sum := "b4cb9b392df2f254da5ed4769408a8eb3db95170724cd69fce7178dc9ad07489", func := "toller/tollerlaw20.BackFields", spec := "backFields", inPlace := ["internal/bytealg.IndexByteString", "internal/bytealg.IndexString", "internal/abi.NoEscape"], unfollowed := true, recurses := true, named := ["internal/bytealg.MaxLen"], apart := false }
def BackFieldsSaid : Prop := backFieldsRow.holds Try.pinned (OpenSpec.ofChange backFieldsSpec)

/-- ITS FALSE NEIGHBOUR: 'it returns false'. Refute it at one input. -/
def backFieldsWrong : ChangeSpec := { name := "backFields", fn := fun _ => fun
  | [d1, d2] => { results := [.lit (.bool false)], args := [d1, d2] }
  | _ => none }
def BackFieldsWrongFalsely : Prop := backFieldsRow.holds Try.pinned (OpenSpec.ofChange backFieldsWrong)

/-- 'tollerlaw20.BackBytes': WHATEVER THE INPUT: true; the input reads as it did. -/
def backBytesSpec : ChangeSpec := { name := "backBytes", fn := fun _ => fun
  | [d1, d2, d3, d4] => { results := [.lit (.bool true)], args := [d1, d2, d3, d4] }
  | _ => none }
def backBytesRow : OpenClaim := { program := "ytalehfdcebabnaa", sum := "b4cb9b392df2f254da5ed4769408a8eb3db95170724cd69fce7178dc9ad07489", func := "toller/tollerlaw20.BackBytes", spec := "backBytes", inPlace := ["internal/bytealg.IndexByteString", "internal/bytealg.IndexString", "internal/abi.NoEscape"], unfollowed := true, recurses := true, named := ["internal/bytealg.MaxLen"], apart := false }
def BackBytesSaid : Prop := backBytesRow.holds Try.pinned (OpenSpec.ofChange backBytesSpec)

/-- ITS FALSE NEIGHBOUR: 'it returns false'. Refute it at one input. -/
def backBytesWrong : ChangeSpec := { name := "backBytes", fn := fun _ => fun
  | [d1, d2, d3, d4] => { results := [.lit (.bool false)], args := [d1, d2, d3, d4] }
  | _ => none }
def BackBytesWrongFalsely : Prop := backBytesRow.holds Try.pinned (OpenSpec.ofChange backBytesWrong)

/-- 'tollerlaw20.BackFirst': WHATEVER THE INPUT: true; the input reads as it did. -/
def backFirstSpec : ChangeSpec := { name := "backFirst", fn := fun _ => fun
  | [d1, d2, d3] => { results := [.lit (.bool true)], args := [d1, d2, d3] }
  | _ => none }
def backFirstRow : OpenClaim := { program := "ytalehfdcebabnaa", sum := "b4cb9b392df2f254da5ed4769408a8eb3db95170724cd69fce7178dc9ad07489", func := "toller/tollerlaw20.BackFirst", spec := "backFirst", inPlace := ["internal/bytealg.IndexByteString", "internal/bytealg.IndexString", "internal/abi.NoEscape"], unfollowed := true, recurses := true, named := ["internal/bytealg.MaxLen"], apart := false }
def BackFirstSaid : Prop := backFirstRow.holds Try.pinned (OpenSpec.ofChange backFirstSpec)

/-- ITS FALSE NEIGHBOUR: 'it returns false'. Refute it at one input. -/
def backFirstWrong : ChangeSpec := { name := "backFirst", fn := fun _ => fun
  | [d1, d2, d3] => { results := [.lit (.bool false)], args := [d1, d2, d3] }
  | _ => none }
def BackFirstWrongFalsely : Prop := backFirstRow.holds Try.pinned (OpenSpec.ofChange backFirstWrong)

/- THE SECOND FORM. 'bulk': how many values and letters a reading holds, each counted each time it is reached (what is shared counts as often as it is met; a slice's spare places count too). A statement '..UptoSaid' is the law's where the arguments, and the package variables that the reading takes, are together of bulk at most 1048576: NARROWER than '..Said'. Prove '..Said' where nothing that the law and all that it calls make is longer than what came in: it says more and counts as full. Else prove '..UptoSaid'. A law counts once. -/
mutual
def uptoBulk {H : Type} : DataW H → Nat
  | .lit (.string bytes) => bytes.length + 1
  | .lit _ => 1
  | .nil => 1
  | .ptr d => uptoBulk d + 1
  | .slice elems spare => uptoBulkAll elems + uptoBulkAll spare + 1
  | .agg parts => uptoBulkAll parts + 1
  | .iface _ d => uptoBulk d + 1
  | .map entries => uptoBulkEntries entries + 1
  | .held _ => 1
def uptoBulkAll {H : Type} : List (DataW H) → Nat
  | [] => 0
  | d :: r => uptoBulk d + uptoBulkAll r
def uptoBulkEntries {H : Type} : List (Lit × DataW H) → Nat
  | [] => 0
  | x :: r => uptoBulkEntry x + uptoBulkEntries r
def uptoBulkEntry {H : Type} : Lit × DataW H → Nat
  | (.string bytes, d) => bytes.length + uptoBulk d + 1
  | (_, d) => uptoBulk d + 1
 end
def uptoSmall : (H : Type) → List (DataW H) → Bool := fun _ ds => decide (uptoBulkAll ds ≤ 1048576)
def OpenSpec.upto (s : _root_.Go.ChangeSpec) : _root_.Go.OpenSpec := { _root_.Go.OpenSpec.ofChange s with cond := some uptoSmall }

/-- 'tollerlaw20.BackFields', WHERE WHAT IT READS IS OF BULK AT MOST 1048576: true; the input reads as it did. -/
def backFieldsUptoRow : OpenClaim := { program := "ytalehfdcebabnaa", sum := "b4cb9b392df2f254da5ed4769408a8eb3db95170724cd69fce7178dc9ad07489", func := "toller/tollerlaw20.BackFields", spec := "backFields", inPlace := ["internal/bytealg.IndexByteString", "internal/bytealg.IndexString", "internal/abi.NoEscape"], unfollowed := true, recurses := true, named := ["internal/bytealg.MaxLen"], apart := false, narrowed := true }
def BackFieldsUptoSaid : Prop := backFieldsUptoRow.holds Try.pinned (OpenSpec.upto backFieldsSpec)

/-- 'tollerlaw20.BackBytes', WHERE WHAT IT READS IS OF BULK AT MOST 1048576: true; the input reads as it did. -/
def backBytesUptoRow : OpenClaim := { program := "ytalehfdcebabnaa", sum := "b4cb9b392df2f254da5ed4769408a8eb3db95170724cd69fce7178dc9ad07489", func := "toller/tollerlaw20.BackBytes", spec := "backBytes", inPlace := ["internal/bytealg.IndexByteString", "internal/bytealg.IndexString", "internal/abi.NoEscape"], unfollowed := true, recurses := true, named := ["internal/bytealg.MaxLen"], apart := false, narrowed := true }
def BackBytesUptoSaid : Prop := backBytesUptoRow.holds Try.pinned (OpenSpec.upto backBytesSpec)

/-- 'tollerlaw20.BackFirst', WHERE WHAT IT READS IS OF BULK AT MOST 1048576: true; the input reads as it did. -/
def backFirstUptoRow : OpenClaim := { program := "ytalehfdcebabnaa", sum := "b4cb9b392df2f254da5ed4769408a8eb3db95170724cd69fce7178dc9ad07489", func := "toller/tollerlaw20.BackFirst", spec := "backFirst", inPlace := ["internal/bytealg.IndexByteString", "internal/bytealg.IndexString", "internal/abi.NoEscape"], unfollowed := true, recurses := true, named := ["internal/bytealg.MaxLen"], apart := false, narrowed := true }
def BackFirstUptoSaid : Prop := backFirstUptoRow.holds Try.pinned (OpenSpec.upto backFirstSpec)

end Rows
end Go.Proofs.Ytalehfdcebabnaa
