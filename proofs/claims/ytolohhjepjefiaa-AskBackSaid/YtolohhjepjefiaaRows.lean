/-
  No cell of these rows narrows 'for every input' (looked for: loops, veiled, ifaces, maps, wideKeys, modest, calm, conditions, laid).
  DERIVED. THE GIVEN ROWS OF THIS SEAT. 5 by the template 'for every input the law returns true; each argument reads behind the call as it read before'; 0 by the template 'total and deterministic' (their statements: YtolohhjepjefiaaTotals.lean).
  GIVEN WITH THE SEED: the statements are not yours to turn. If you find one false, say at which input.
  Laid BY PROGRAM, IN A SANDBOX (cutbox-rows.mjs): the forced cells as the released guide's own fill.sh prints them over the translation d185c74b4e91cfec… (all of the seat's roots in one cut). By AI agents, Wed Nov 11 2026. No macro, syntax, notation, axiom, sorry.
-/
import Derived.Test.YtolohhjepjefiaaChecked
import GoSem.Claim
import GoSem.ClaimJoined
import GoSem.ClaimMapViews
import Derived.JoinedTies
import Derived.KernelRfl
namespace Go.Proofs.Ytolohhjepjefiaa
/- THE CELL 'sum', in the pinned program and in every row, IS THE sha256 OF THE DUMP (.gsa) THAT YtolohhjepjefiaaProg.lean LOADS. Nothing in Lean hashes anything: it is a label: what it is worth is what the hold of that sum in a sandbox is worth. -/
noncomputable def Try.pinned : Pinned := { name := "ytolohhjepjefiaa", sum := "d185c74b4e91cfec08cde44a28f4c1bd06741cd2d5ef44c5c5c794327ce32a2d", checked := Try.checked }
namespace Rows
def none {H : Type} : Left H := { results := [], args := [] }

/-- 'tollerlaw18.AskErrors': WHATEVER THE INPUT: true; the input reads as it did. -/
def askErrorsSpec : ChangeSpec := { name := "askErrors", fn := fun _ => fun
  | [d1, d2, d3] => { results := [.lit (.bool true)], args := [d1, d2, d3] }
  | _ => none }
def askErrorsRow : OpenClaim := { program := "ytolohhjepjefiaa", sum := "d185c74b4e91cfec08cde44a28f4c1bd06741cd2d5ef44c5c5c794327ce32a2d", func := "toller/tollerlaw18.AskErrors", spec := "askErrors", inPlace := ["internal/bytealg.IndexByteString", "internal/bytealg.IndexString"], unfollowed := true, recurses := true, named := ["internal/bytealg.MaxLen"], apart := false }
def AskErrorsSaid : Prop := askErrorsRow.holds Try.pinned (OpenSpec.ofChange askErrorsSpec)

/-- ITS FALSE NEIGHBOUR: 'it returns false'. Refute it at one input. -/
def askErrorsWrong : ChangeSpec := { name := "askErrors", fn := fun _ => fun
  | [d1, d2, d3] => { results := [.lit (.bool false)], args := [d1, d2, d3] }
  | _ => none }
def AskErrorsWrongFalsely : Prop := askErrorsRow.holds Try.pinned (OpenSpec.ofChange askErrorsWrong)

/-- 'tollerlaw18.AskParts': WHATEVER THE INPUT: true; the input reads as it did. -/
def askPartsSpec : ChangeSpec := { name := "askParts", fn := fun _ => fun
  | [d1, d2, d3] => { results := [.lit (.bool true)], args := [d1, d2, d3] }
  | _ => none }
def askPartsRow : OpenClaim := { program := "ytolohhjepjefiaa", sum := "d185c74b4e91cfec08cde44a28f4c1bd06741cd2d5ef44c5c5c794327ce32a2d", func := "toller/tollerlaw18.AskParts", spec := "askParts", inPlace := ["internal/bytealg.IndexByteString", "internal/bytealg.IndexString"], unfollowed := true, recurses := true, named := ["internal/bytealg.MaxLen"], apart := false }
def AskPartsSaid : Prop := askPartsRow.holds Try.pinned (OpenSpec.ofChange askPartsSpec)

/-- ITS FALSE NEIGHBOUR: 'it returns false'. Refute it at one input. -/
def askPartsWrong : ChangeSpec := { name := "askParts", fn := fun _ => fun
  | [d1, d2, d3] => { results := [.lit (.bool false)], args := [d1, d2, d3] }
  | _ => none }
def AskPartsWrongFalsely : Prop := askPartsRow.holds Try.pinned (OpenSpec.ofChange askPartsWrong)

/-- 'tollerlaw18.AskAsks': WHATEVER THE INPUT: true; the input reads as it did. -/
def askAsksSpec : ChangeSpec := { name := "askAsks", fn := fun _ => fun
  | [d1, d2, d3, d4, d5, d6, d7, d8] => { results := [.lit (.bool true)], args := [d1, d2, d3, d4, d5, d6, d7, d8] }
  | _ => none }
def askAsksRow : OpenClaim := { program := "ytolohhjepjefiaa", sum := "d185c74b4e91cfec08cde44a28f4c1bd06741cd2d5ef44c5c5c794327ce32a2d", func := "toller/tollerlaw18.AskAsks", spec := "askAsks", inPlace := ["internal/bytealg.IndexByteString", "internal/bytealg.IndexString"], unfollowed := true, recurses := true, named := ["internal/bytealg.MaxLen"], apart := false }
def AskAsksSaid : Prop := askAsksRow.holds Try.pinned (OpenSpec.ofChange askAsksSpec)

/-- ITS FALSE NEIGHBOUR: 'it returns false'. Refute it at one input. -/
def askAsksWrong : ChangeSpec := { name := "askAsks", fn := fun _ => fun
  | [d1, d2, d3, d4, d5, d6, d7, d8] => { results := [.lit (.bool false)], args := [d1, d2, d3, d4, d5, d6, d7, d8] }
  | _ => none }
def AskAsksWrongFalsely : Prop := askAsksRow.holds Try.pinned (OpenSpec.ofChange askAsksWrong)

/-- 'tollerlaw18.AskBack': WHATEVER THE INPUT: true; the input reads as it did. -/
def askBackSpec : ChangeSpec := { name := "askBack", fn := fun _ => fun
  | [d1, d2, d3, d4, d5] => { results := [.lit (.bool true)], args := [d1, d2, d3, d4, d5] }
  | _ => none }
def askBackRow : OpenClaim := { program := "ytolohhjepjefiaa", sum := "d185c74b4e91cfec08cde44a28f4c1bd06741cd2d5ef44c5c5c794327ce32a2d", func := "toller/tollerlaw18.AskBack", spec := "askBack", inPlace := ["internal/bytealg.IndexByteString", "internal/bytealg.IndexString"], unfollowed := true, recurses := true, named := ["internal/bytealg.MaxLen"], apart := false }
def AskBackSaid : Prop := askBackRow.holds Try.pinned (OpenSpec.ofChange askBackSpec)

/-- ITS FALSE NEIGHBOUR: 'it returns false'. Refute it at one input. -/
def askBackWrong : ChangeSpec := { name := "askBack", fn := fun _ => fun
  | [d1, d2, d3, d4, d5] => { results := [.lit (.bool false)], args := [d1, d2, d3, d4, d5] }
  | _ => none }
def AskBackWrongFalsely : Prop := askBackRow.holds Try.pinned (OpenSpec.ofChange askBackWrong)

/-- 'tollerlaw18.AskLong': WHATEVER THE INPUT: true; the input reads as it did. -/
def askLongSpec : ChangeSpec := { name := "askLong", fn := fun _ => fun
  | [d1, d2, d3] => { results := [.lit (.bool true)], args := [d1, d2, d3] }
  | _ => none }
def askLongRow : OpenClaim := { program := "ytolohhjepjefiaa", sum := "d185c74b4e91cfec08cde44a28f4c1bd06741cd2d5ef44c5c5c794327ce32a2d", func := "toller/tollerlaw18.AskLong", spec := "askLong", inPlace := ["internal/bytealg.IndexByteString", "internal/bytealg.IndexString"], unfollowed := true, recurses := true, named := ["internal/bytealg.MaxLen"], apart := false }
def AskLongSaid : Prop := askLongRow.holds Try.pinned (OpenSpec.ofChange askLongSpec)

/-- ITS FALSE NEIGHBOUR: 'it returns false'. Refute it at one input. -/
def askLongWrong : ChangeSpec := { name := "askLong", fn := fun _ => fun
  | [d1, d2, d3] => { results := [.lit (.bool false)], args := [d1, d2, d3] }
  | _ => none }
def AskLongWrongFalsely : Prop := askLongRow.holds Try.pinned (OpenSpec.ofChange askLongWrong)

/- THE SECOND FORM. 'bulk': how many values and letters a reading holds, each counted each time it is reached (what is shared counts as often as it is met; a slice's spare places count too). A statement '..UptoSaid' is the law's where the arguments, and the package variables that the reading takes, are together of bulk at most 1048576: NARROWER than '..Said'. Prove '..Said' where nothing that the law and all that it calls make is longer than what came in: it says more and counts as full. Else prove '..UptoSaid'. A law counts once. -/
mutual
def uptoBulk {H : Type} : DataW H → Nat
  | .lit (.string bytes) => bytes.length + 1
  | .lit _ => 1
  | .nil => 1
  | .ptr d => uptoBulk d + 1
  | .slice elems spare => uptoBulkAll elems + uptoBulkAll spare + 1
  | .agg parts => uptoBulkAll parts + 1
  | .iface _ d => uptoBulk d + 1
  | .map entries => uptoBulkEntries entries + 1
  | .held _ => 1
def uptoBulkAll {H : Type} : List (DataW H) → Nat
  | [] => 0
  | d :: r => uptoBulk d + uptoBulkAll r
def uptoBulkEntries {H : Type} : List (Lit × DataW H) → Nat
  | [] => 0
  | x :: r => uptoBulkEntry x + uptoBulkEntries r
def uptoBulkEntry {H : Type} : Lit × DataW H → Nat
  | (.string bytes, d) => bytes.length + uptoBulk d + 1
  | (_, d) => uptoBulk d + 1
 end
def uptoSmall : (H : Type) → List (DataW H) → Bool := fun _ ds => decide (uptoBulkAll ds ≤ 1048576)
def OpenSpec.upto (s : _root_.Go.ChangeSpec) : _root_.Go.OpenSpec := { _root_.Go.OpenSpec.ofChange s with cond := some uptoSmall }

/-- 'tollerlaw18.AskErrors', WHERE WHAT IT READS IS OF BULK AT MOST 1048576: true; the input reads as it did. -/
def askErrorsUptoRow : OpenClaim := { program := "ytolohhjepjefiaa", sum := "d185c74b4e91cfec08cde44a28f4c1bd06741cd2d5ef44c5c5c794327ce32a2d", func := "toller/tollerlaw18.AskErrors", spec := "askErrors", inPlace := ["internal/bytealg.IndexByteString", "internal/bytealg.IndexString"], unfollowed := true, recurses := true, named := ["internal/bytealg.MaxLen"], apart := false, narrowed := true }
def AskErrorsUptoSaid : Prop := askErrorsUptoRow.holds Try.pinned (OpenSpec.upto askErrorsSpec)

/-- 'tollerlaw18.AskParts', WHERE WHAT IT READS IS OF BULK AT MOST 1048576: true; the input reads as it did. -/
def askPartsUptoRow : OpenClaim := { program := "ytolohhjepjefiaa", sum := "d185c74b4e91cfec08cde44a28f4c1bd06741cd2d5ef44c5c5c794327ce32a2d", func := "toller/tollerlaw18.AskParts", spec := "askParts", inPlace := ["internal/bytealg.IndexByteString", "internal/bytealg.IndexString"], unfollowed := true, recurses := true, named := ["internal/bytealg.MaxLen"], apart := false, narrowed := true }
def AskPartsUptoSaid : Prop := askPartsUptoRow.holds Try.pinned (OpenSpec.upto askPartsSpec)

/-- 'tollerlaw18.AskAsks', WHERE WHAT IT READS IS OF BULK AT MOST 1048576: true; the input reads as it did. -/
def askAsksUptoRow : OpenClaim := { program := "ytolohhjepjefiaa", sum := "d185c74b4e91cfec08cde44a28f4c1bd06741cd2d5ef44c5c5c794327ce32a2d", func := "toller/tollerlaw18.AskAsks", spec := "askAsks", inPlace := ["internal/bytealg.IndexByteString", "internal/bytealg.IndexString"], unfollowed := true, recurses := true, named := ["internal/bytealg.MaxLen"], apart := false, narrowed := true }
def AskAsksUptoSaid : Prop := askAsksUptoRow.holds Try.pinned (OpenSpec.upto askAsksSpec)

/-- 'tollerlaw18.AskBack', WHERE WHAT IT READS IS OF BULK AT MOST 1048576: true; the input reads as it did. -/
def askBackUptoRow : OpenClaim := { program := "ytolohhjepjefiaa", sum := "d185c74b4e91cfec08cde44a28f4c1bd06741cd2d5ef44c5c5c794327ce32a2d", func := "toller/tollerlaw18.AskBack", spec := "askBack", inPlace := ["internal/bytealg.IndexByteString", "internal/bytealg.IndexString"], unfollowed := true, recurses := true, named := ["internal/bytealg.MaxLen"], apart := false, narrowed := true }
def AskBackUptoSaid : Prop := askBackUptoRow.holds Try.pinned (OpenSpec.upto askBackSpec)

/-- 'tollerlaw18.AskLong', WHERE WHAT IT READS IS OF BULK AT MOST 1048576: true; the input reads as it did. -/
def askLongUptoRow : OpenClaim := { program := "ytolohhjepjefiaa", sum := "d185c74b4e91cfec08cde44a28f4c1bd06741cd2d5ef44c5c5c794327ce32a2d", func := "toller/tollerlaw18.AskLong", spec := "askLong", inPlace := ["internal/bytealg.IndexByteString", "internal/bytealg.IndexString"], unfollowed := true, recurses := true, named := ["internal/bytealg.MaxLen"], apart := false, narrowed := true }
def AskLongUptoSaid : Prop := askLongUptoRow.holds Try.pinned (OpenSpec.upto askLongSpec)

end Rows
end Go.Proofs.Ytolohhjepjefiaa
