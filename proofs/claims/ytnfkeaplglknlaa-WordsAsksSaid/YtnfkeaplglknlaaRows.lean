/-
  No cell of these rows narrows 'for every input' (looked for: loops, veiled, ifaces, maps, wideKeys, modest, calm, conditions, laid).
  DERIVED. THE GIVEN ROWS OF THIS SEAT. 6 by the template 'for every input the law returns true; each argument reads behind the call as it read before'; 0 by the template 'total and deterministic' (their statements: YtnfkeaplglknlaaTotals.lean).
  GIVEN WITH THE SEED: the statements are not yours to turn. If you find one false, say at which input.
  Laid BY PROGRAM, IN A SANDBOX (cutbox-rows.mjs): the forced cells as the released guide's own fill.sh prints them over the translation 5d696fe27e480b1d… (all of the seat's roots in one cut). By AI agents, Wed Nov 11 2026. No macro, syntax, notation, axiom, sorry.
-/
import Derived.Test.YtnfkeaplglknlaaChecked
import GoSem.Claim
import GoSem.ClaimJoined
import GoSem.ClaimMapViews
import Derived.JoinedTies
import Derived.KernelRfl
namespace Go.Proofs.Ytnfkeaplglknlaa
/- THE CELL 'sum', in the pinned program and in every row, IS THE sha256 OF THE DUMP (.gsa) THAT YtnfkeaplglknlaaProg.lean LOADS. Nothing in Lean hashes anything: it is a label: what it is worth is what the hold of that sum in a sandbox is worth. -/
noncomputable def Try.pinned : Pinned := { name := "ytnfkeaplglknlaa", sum := "5d696fe27e480b1d589846f866f99e50311019667487253a9a5fd0f578edce72", checked := Try.checked }
namespace Rows
def none {H : Type} : Left H := { results := [], args := [] }

/-- 'tollerlaw10.WordsStand': WHATEVER THE INPUT: true; the input reads as it did. -/
def wordsStandSpec : ChangeSpec := { name := "wordsStand", fn := fun _ => fun
  | [d1, d2] => { results := [.lit (.bool true)], args := [d1, d2] }
  | _ => none }
def wordsStandRow : OpenClaim := { program := "ytnfkeaplglknlaa", sum := "5d696fe27e480b1d589846f866f99e50311019667487253a9a5fd0f578edce72", func := "toller/tollerlaw10.WordsStand", spec := "wordsStand", unfollowed := true, recurses := true, apart := false }
def WordsStandSaid : Prop := wordsStandRow.holds Try.pinned (OpenSpec.ofChange wordsStandSpec)

/-- ITS FALSE NEIGHBOUR: 'it returns false'. Refute it at one input. -/
def wordsStandWrong : ChangeSpec := { name := "wordsStand", fn := fun _ => fun
  | [d1, d2] => { results := [.lit (.bool false)], args := [d1, d2] }
  | _ => none }
def WordsStandWrongFalsely : Prop := wordsStandRow.holds Try.pinned (OpenSpec.ofChange wordsStandWrong)

/-- 'tollerlaw10.WordsLong': WHATEVER THE INPUT: true; the input reads as it did. -/
def wordsLongSpec : ChangeSpec := { name := "wordsLong", fn := fun _ => fun
  | [d1, d2, d3] => { results := [.lit (.bool true)], args := [d1, d2, d3] }
  | _ => none }
def wordsLongRow : OpenClaim := { program := "ytnfkeaplglknlaa", sum := "5d696fe27e480b1d589846f866f99e50311019667487253a9a5fd0f578edce72", func := "toller/tollerlaw10.WordsLong", spec := "wordsLong", unfollowed := true, recurses := true, apart := false }
def WordsLongSaid : Prop := wordsLongRow.holds Try.pinned (OpenSpec.ofChange wordsLongSpec)

/-- ITS FALSE NEIGHBOUR: 'it returns false'. Refute it at one input. -/
def wordsLongWrong : ChangeSpec := { name := "wordsLong", fn := fun _ => fun
  | [d1, d2, d3] => { results := [.lit (.bool false)], args := [d1, d2, d3] }
  | _ => none }
def WordsLongWrongFalsely : Prop := wordsLongRow.holds Try.pinned (OpenSpec.ofChange wordsLongWrong)

/-- 'tollerlaw10.WordsParts': WHATEVER THE INPUT: true; the input reads as it did. -/
def wordsPartsSpec : ChangeSpec := { name := "wordsParts", fn := fun _ => fun
  | [d1, d2] => { results := [.lit (.bool true)], args := [d1, d2] }
  | _ => none }
def wordsPartsRow : OpenClaim := { program := "ytnfkeaplglknlaa", sum := "5d696fe27e480b1d589846f866f99e50311019667487253a9a5fd0f578edce72", func := "toller/tollerlaw10.WordsParts", spec := "wordsParts", unfollowed := true, recurses := true, apart := false }
def WordsPartsSaid : Prop := wordsPartsRow.holds Try.pinned (OpenSpec.ofChange wordsPartsSpec)

/-- ITS FALSE NEIGHBOUR: 'it returns false'. Refute it at one input. -/
def wordsPartsWrong : ChangeSpec := { name := "wordsParts", fn := fun _ => fun
  | [d1, d2] => { results := [.lit (.bool false)], args := [d1, d2] }
  | _ => none }
def WordsPartsWrongFalsely : Prop := wordsPartsRow.holds Try.pinned (OpenSpec.ofChange wordsPartsWrong)

/-- 'tollerlaw10.WordsBlanks': WHATEVER THE INPUT: true; the input reads as it did. -/
def wordsBlanksSpec : ChangeSpec := { name := "wordsBlanks", fn := fun _ => fun
  | [d1, d2] => { results := [.lit (.bool true)], args := [d1, d2] }
  | _ => none }
def wordsBlanksRow : OpenClaim := { program := "ytnfkeaplglknlaa", sum := "5d696fe27e480b1d589846f866f99e50311019667487253a9a5fd0f578edce72", func := "toller/tollerlaw10.WordsBlanks", spec := "wordsBlanks", unfollowed := true, recurses := true, apart := false }
def WordsBlanksSaid : Prop := wordsBlanksRow.holds Try.pinned (OpenSpec.ofChange wordsBlanksSpec)

/-- ITS FALSE NEIGHBOUR: 'it returns false'. Refute it at one input. -/
def wordsBlanksWrong : ChangeSpec := { name := "wordsBlanks", fn := fun _ => fun
  | [d1, d2] => { results := [.lit (.bool false)], args := [d1, d2] }
  | _ => none }
def WordsBlanksWrongFalsely : Prop := wordsBlanksRow.holds Try.pinned (OpenSpec.ofChange wordsBlanksWrong)

/-- 'tollerlaw10.WordsAsks': WHATEVER THE INPUT: true; the input reads as it did. -/
def wordsAsksSpec : ChangeSpec := { name := "wordsAsks", fn := fun _ => fun
  | [d1, d2, d3] => { results := [.lit (.bool true)], args := [d1, d2, d3] }
  | _ => none }
def wordsAsksRow : OpenClaim := { program := "ytnfkeaplglknlaa", sum := "5d696fe27e480b1d589846f866f99e50311019667487253a9a5fd0f578edce72", func := "toller/tollerlaw10.WordsAsks", spec := "wordsAsks", inPlace := ["internal/abi.NoEscape", "internal/bytealg.MakeNoZero"], unfollowed := true, recurses := true, apart := false }
def WordsAsksSaid : Prop := wordsAsksRow.holds Try.pinned (OpenSpec.ofChange wordsAsksSpec)

/-- ITS FALSE NEIGHBOUR: 'it returns false'. Refute it at one input. -/
def wordsAsksWrong : ChangeSpec := { name := "wordsAsks", fn := fun _ => fun
  | [d1, d2, d3] => { results := [.lit (.bool false)], args := [d1, d2, d3] }
  | _ => none }
def WordsAsksWrongFalsely : Prop := wordsAsksRow.holds Try.pinned (OpenSpec.ofChange wordsAsksWrong)

/-- 'tollerlaw10.WordsBack': WHATEVER THE INPUT: true; the input reads as it did. -/
def wordsBackSpec : ChangeSpec := { name := "wordsBack", fn := fun _ => fun
  | [d1, d2] => { results := [.lit (.bool true)], args := [d1, d2] }
  | _ => none }
def wordsBackRow : OpenClaim := { program := "ytnfkeaplglknlaa", sum := "5d696fe27e480b1d589846f866f99e50311019667487253a9a5fd0f578edce72", func := "toller/tollerlaw10.WordsBack", spec := "wordsBack", inPlace := ["internal/abi.NoEscape", "internal/bytealg.MakeNoZero"], unfollowed := true, recurses := true, apart := false }
def WordsBackSaid : Prop := wordsBackRow.holds Try.pinned (OpenSpec.ofChange wordsBackSpec)

/-- ITS FALSE NEIGHBOUR: 'it returns false'. Refute it at one input. -/
def wordsBackWrong : ChangeSpec := { name := "wordsBack", fn := fun _ => fun
  | [d1, d2] => { results := [.lit (.bool false)], args := [d1, d2] }
  | _ => none }
def WordsBackWrongFalsely : Prop := wordsBackRow.holds Try.pinned (OpenSpec.ofChange wordsBackWrong)

/- THE SECOND FORM. 'bulk': how many values and letters a reading holds, each counted each time it is reached (what is shared counts as often as it is met; a slice's spare places count too). A statement '..UptoSaid' is the law's where the arguments, and the package variables that the reading takes, are together of bulk at most 1048576: NARROWER than '..Said'. Prove '..Said' where nothing that the law and all that it calls make is longer than what came in: it says more and counts as full. Else prove '..UptoSaid'. A law counts once. -/
mutual
def uptoBulk {H : Type} : DataW H → Nat
  | .lit (.string bytes) => bytes.length + 1
  | .lit _ => 1
  | .nil => 1
  | .ptr d => uptoBulk d + 1
  | .slice elems spare => uptoBulkAll elems + uptoBulkAll spare + 1
  | .agg parts => uptoBulkAll parts + 1
  | .iface _ d => uptoBulk d + 1
  | .map entries => uptoBulkEntries entries + 1
  | .held _ => 1
def uptoBulkAll {H : Type} : List (DataW H) → Nat
  | [] => 0
  | d :: r => uptoBulk d + uptoBulkAll r
def uptoBulkEntries {H : Type} : List (Lit × DataW H) → Nat
  | [] => 0
  | x :: r => uptoBulkEntry x + uptoBulkEntries r
def uptoBulkEntry {H : Type} : Lit × DataW H → Nat
  | (.string bytes, d) => bytes.length + uptoBulk d + 1
  | (_, d) => uptoBulk d + 1
 end
def uptoSmall : (H : Type) → List (DataW H) → Bool := fun _ ds => decide (uptoBulkAll ds ≤ 1048576)
def OpenSpec.upto (s : _root_.Go.ChangeSpec) : _root_.Go.OpenSpec := { _root_.Go.OpenSpec.ofChange s with cond := some uptoSmall }

/-- 'tollerlaw10.WordsStand', WHERE WHAT IT READS IS OF BULK AT MOST 1048576: true; the input reads as it did. -/
def wordsStandUptoRow : OpenClaim := { program := "ytnfkeaplglknlaa", sum := "5d696fe27e480b1d589846f866f99e50311019667487253a9a5fd0f578edce72", func := "toller/tollerlaw10.WordsStand", spec := "wordsStand", unfollowed := true, recurses := true, apart := false, narrowed := true }
def WordsStandUptoSaid : Prop := wordsStandUptoRow.holds Try.pinned (OpenSpec.upto wordsStandSpec)

/-- 'tollerlaw10.WordsLong', WHERE WHAT IT READS IS OF BULK AT MOST 1048576: true; the input reads as it did. -/
def wordsLongUptoRow : OpenClaim := { program := "ytnfkeaplglknlaa", sum := "5d696fe27e480b1d589846f866f99e50311019667487253a9a5fd0f578edce72", func := "toller/tollerlaw10.WordsLong", spec := "wordsLong", unfollowed := true, recurses := true, apart := false, narrowed := true }
def WordsLongUptoSaid : Prop := wordsLongUptoRow.holds Try.pinned (OpenSpec.upto wordsLongSpec)

/-- 'tollerlaw10.WordsParts', WHERE WHAT IT READS IS OF BULK AT MOST 1048576: true; the input reads as it did. -/
def wordsPartsUptoRow : OpenClaim := { program := "ytnfkeaplglknlaa", sum := "5d696fe27e480b1d589846f866f99e50311019667487253a9a5fd0f578edce72", func := "toller/tollerlaw10.WordsParts", spec := "wordsParts", unfollowed := true, recurses := true, apart := false, narrowed := true }
def WordsPartsUptoSaid : Prop := wordsPartsUptoRow.holds Try.pinned (OpenSpec.upto wordsPartsSpec)

/-- 'tollerlaw10.WordsBlanks', WHERE WHAT IT READS IS OF BULK AT MOST 1048576: true; the input reads as it did. -/
def wordsBlanksUptoRow : OpenClaim := { program := "ytnfkeaplglknlaa", sum := "5d696fe27e480b1d589846f866f99e50311019667487253a9a5fd0f578edce72", func := "toller/tollerlaw10.WordsBlanks", spec := "wordsBlanks", unfollowed := true, recurses := true, apart := false, narrowed := true }
def WordsBlanksUptoSaid : Prop := wordsBlanksUptoRow.holds Try.pinned (OpenSpec.upto wordsBlanksSpec)

/-- 'tollerlaw10.WordsAsks', WHERE WHAT IT READS IS OF BULK AT MOST 1048576: true; the input reads as it did. -/
def wordsAsksUptoRow : OpenClaim := { program := "ytnfkeaplglknlaa", sum := "5d696fe27e480b1d589846f866f99e50311019667487253a9a5fd0f578edce72", func := "toller/tollerlaw10.WordsAsks", spec := "wordsAsks", inPlace := ["internal/abi.NoEscape", "internal/bytealg.MakeNoZero"], unfollowed := true, recurses := true, apart := false, narrowed := true }
def WordsAsksUptoSaid : Prop := wordsAsksUptoRow.holds Try.pinned (OpenSpec.upto wordsAsksSpec)

/-- 'tollerlaw10.WordsBack', WHERE WHAT IT READS IS OF BULK AT MOST 1048576: true; the input reads as it did. -/
def wordsBackUptoRow : OpenClaim := { program := "ytnfkeaplglknlaa", sum := "5d696fe27e480b1d589846f866f99e50311019667487253a9a5fd0f578edce72", func := "toller/tollerlaw10.WordsBack", spec := "wordsBack", inPlace := ["internal/abi.NoEscape", "internal/bytealg.MakeNoZero"], unfollowed := true, recurses := true, apart := false, narrowed := true }
def WordsBackUptoSaid : Prop := wordsBackUptoRow.holds Try.pinned (OpenSpec.upto wordsBackSpec)

end Rows
end Go.Proofs.Ytnfkeaplglknlaa
