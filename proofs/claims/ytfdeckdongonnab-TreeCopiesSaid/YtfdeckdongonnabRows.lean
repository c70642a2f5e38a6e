/-
  No cell of these rows narrows 'for every input' (looked for: loops, veiled, ifaces, maps, wideKeys, modest, calm, conditions, laid).
  DERIVED. THE GIVEN ROWS OF THIS SEAT. 6 by the template 'for every input the law returns true; each argument reads behind the call as it read before'; 0 by the template 'total and deterministic' (their statements: YtfdeckdongonnabTotals.lean).
  GIVEN WITH THE SEED: the statements are not yours to turn. If you find one false, say at which input.
  Laid BY PROGRAM, IN A SANDBOX (cutbox-rows.mjs): the forced cells as the released guide's own fill.sh prints them over the translation 89003bd60b1fe3c3… (all of the seat's roots in one cut). By AI agents, Wed Nov 11 2026. No macro, syntax, notation, axiom, sorry.
-/
import Derived.Test.YtfdeckdongonnabChecked
import GoSem.Claim
import GoSem.ClaimJoined
import GoSem.ClaimMapViews
import Derived.JoinedTies
import Derived.KernelRfl
namespace Go.Proofs.Ytfdeckdongonnab
/- THE CELL 'sum', in the pinned program and in every row, IS THE sha256 OF THE DUMP (.gsa) THAT YtfdeckdongonnabProg.lean LOADS. Nothing in Lean hashes anything: it is a label: what it is worth is what the hold of that sum in a sandbox is worth. -/
noncomputable def Try.pinned : Pinned := { name := "ytfdeckdongonnab", sum := "89003bd60b1fe3c3cec5f300d0592e0f887c4bb7b4a83eefd3656fae265f48c0", checked := Try.checked }
namespace Rows
def none {H : Type} : Left H := { results := [], args := [] }

/-- 'limnerlaw17.TreeDeep': WHATEVER THE INPUT: true; the input reads as it did. -/
def treeDeepSpec : ChangeSpec := { name := "treeDeep", fn := fun _ => fun
  | [d] => { results := [.lit (.bool true)], args := [d] }
  | _ => none }
def treeDeepRow : OpenClaim := { program := "ytfdeckdongonnab", sum := "89003bd60b1fe3c3cec5f300d0592e0f887c4bb7b4a83eefd3656fae265f48c0", func := "limner/limnerlaw17.TreeDeep", spec := "treeDeep", inPlace := ["slices.overlaps[int]"], unfollowed := true, recurses := true, apart := false }
def TreeDeepSaid : Prop := treeDeepRow.holds Try.pinned (OpenSpec.ofChange treeDeepSpec)

/-- ITS FALSE NEIGHBOUR: 'it returns false'. Refute it at one input. -/
def treeDeepWrong : ChangeSpec := { name := "treeDeep", fn := fun _ => fun
  | [d] => { results := [.lit (.bool false)], args := [d] }
  | _ => none }
def TreeDeepWrongFalsely : Prop := treeDeepRow.holds Try.pinned (OpenSpec.ofChange treeDeepWrong)

/-- 'limnerlaw17.TreePlays': WHATEVER THE INPUT: true; the input reads as it did. -/
def treePlaysSpec : ChangeSpec := { name := "treePlays", fn := fun _ => fun
  | [d] => { results := [.lit (.bool true)], args := [d] }
  | _ => none }
def treePlaysRow : OpenClaim := { program := "ytfdeckdongonnab", sum := "89003bd60b1fe3c3cec5f300d0592e0f887c4bb7b4a83eefd3656fae265f48c0", func := "limner/limnerlaw17.TreePlays", spec := "treePlays", inPlace := ["slices.overlaps[int]"], unfollowed := true, recurses := true, apart := false }
def TreePlaysSaid : Prop := treePlaysRow.holds Try.pinned (OpenSpec.ofChange treePlaysSpec)

/-- ITS FALSE NEIGHBOUR: 'it returns false'. Refute it at one input. -/
def treePlaysWrong : ChangeSpec := { name := "treePlays", fn := fun _ => fun
  | [d] => { results := [.lit (.bool false)], args := [d] }
  | _ => none }
def TreePlaysWrongFalsely : Prop := treePlaysRow.holds Try.pinned (OpenSpec.ofChange treePlaysWrong)

/-- 'limnerlaw17.TreeCopies': WHATEVER THE INPUT: true; the input reads as it did. -/
def treeCopiesSpec : ChangeSpec := { name := "treeCopies", fn := fun _ => fun
  | [d1, d2] => { results := [.lit (.bool true)], args := [d1, d2] }
  | _ => none }
def treeCopiesRow : OpenClaim := { program := "ytfdeckdongonnab", sum := "89003bd60b1fe3c3cec5f300d0592e0f887c4bb7b4a83eefd3656fae265f48c0", func := "limner/limnerlaw17.TreeCopies", spec := "treeCopies", inPlace := ["slices.overlaps[int]"], unfollowed := true, recurses := true, apart := false }
def TreeCopiesSaid : Prop := treeCopiesRow.holds Try.pinned (OpenSpec.ofChange treeCopiesSpec)

/-- ITS FALSE NEIGHBOUR: 'it returns false'. Refute it at one input. -/
def treeCopiesWrong : ChangeSpec := { name := "treeCopies", fn := fun _ => fun
  | [d1, d2] => { results := [.lit (.bool false)], args := [d1, d2] }
  | _ => none }
def TreeCopiesWrongFalsely : Prop := treeCopiesRow.holds Try.pinned (OpenSpec.ofChange treeCopiesWrong)

/-- 'limnerlaw17.TreeApart': WHATEVER THE INPUT: true; the input reads as it did. -/
def treeApartSpec : ChangeSpec := { name := "treeApart", fn := fun _ => fun
  | [d] => { results := [.lit (.bool true)], args := [d] }
  | _ => none }
def treeApartRow : OpenClaim := { program := "ytfdeckdongonnab", sum := "89003bd60b1fe3c3cec5f300d0592e0f887c4bb7b4a83eefd3656fae265f48c0", func := "limner/limnerlaw17.TreeApart", spec := "treeApart", inPlace := ["slices.overlaps[int]"], unfollowed := true, recurses := true, apart := false }
def TreeApartSaid : Prop := treeApartRow.holds Try.pinned (OpenSpec.ofChange treeApartSpec)

/-- ITS FALSE NEIGHBOUR: 'it returns false'. Refute it at one input. -/
def treeApartWrong : ChangeSpec := { name := "treeApart", fn := fun _ => fun
  | [d] => { results := [.lit (.bool false)], args := [d] }
  | _ => none }
def TreeApartWrongFalsely : Prop := treeApartRow.holds Try.pinned (OpenSpec.ofChange treeApartWrong)

/-- 'limnerlaw17.TreeUndo': WHATEVER THE INPUT: true; the input reads as it did. -/
def treeUndoSpec : ChangeSpec := { name := "treeUndo", fn := fun _ => fun
  | [d1, d2] => { results := [.lit (.bool true)], args := [d1, d2] }
  | _ => none }
def treeUndoRow : OpenClaim := { program := "ytfdeckdongonnab", sum := "89003bd60b1fe3c3cec5f300d0592e0f887c4bb7b4a83eefd3656fae265f48c0", func := "limner/limnerlaw17.TreeUndo", spec := "treeUndo", inPlace := ["slices.overlaps[int]"], unfollowed := true, recurses := true, apart := false }
def TreeUndoSaid : Prop := treeUndoRow.holds Try.pinned (OpenSpec.ofChange treeUndoSpec)

/-- ITS FALSE NEIGHBOUR: 'it returns false'. Refute it at one input. -/
def treeUndoWrong : ChangeSpec := { name := "treeUndo", fn := fun _ => fun
  | [d1, d2] => { results := [.lit (.bool false)], args := [d1, d2] }
  | _ => none }
def TreeUndoWrongFalsely : Prop := treeUndoRow.holds Try.pinned (OpenSpec.ofChange treeUndoWrong)

/-- 'limnerlaw17.TreeFinds': WHATEVER THE INPUT: true; the input reads as it did. -/
def treeFindsSpec : ChangeSpec := { name := "treeFinds", fn := fun _ => fun
  | [d1, d2] => { results := [.lit (.bool true)], args := [d1, d2] }
  | _ => none }
def treeFindsRow : OpenClaim := { program := "ytfdeckdongonnab", sum := "89003bd60b1fe3c3cec5f300d0592e0f887c4bb7b4a83eefd3656fae265f48c0", func := "limner/limnerlaw17.TreeFinds", spec := "treeFinds", inPlace := ["slices.overlaps[int]"], unfollowed := true, recurses := true, apart := false }
def TreeFindsSaid : Prop := treeFindsRow.holds Try.pinned (OpenSpec.ofChange treeFindsSpec)

/-- ITS FALSE NEIGHBOUR: 'it returns false'. Refute it at one input. -/
def treeFindsWrong : ChangeSpec := { name := "treeFinds", fn := fun _ => fun
  | [d1, d2] => { results := [.lit (.bool false)], args := [d1, d2] }
  | _ => none }
def TreeFindsWrongFalsely : Prop := treeFindsRow.holds Try.pinned (OpenSpec.ofChange treeFindsWrong)

/- THE SECOND FORM. 'bulk': how many values and letters a reading holds, each counted each time it is reached (what is shared counts as often as it is met; a slice's spare places count too). A statement '..UptoSaid' is the law's where the arguments, and the package variables that the reading takes, are together of bulk at most 1048576: NARROWER than '..Said'. Prove '..Said' where nothing that the law and all that it calls make is longer than what came in: it says more and counts as full. Else prove '..UptoSaid'. A law counts once. -/
mutual
def uptoBulk {H : Type} : DataW H → Nat
  | .lit (.string bytes) => bytes.length + 1
  | .lit _ => 1
  | .nil => 1
  | .ptr d => uptoBulk d + 1
  | .slice elems spare => uptoBulkAll elems + uptoBulkAll spare + 1
  | .agg parts => uptoBulkAll parts + 1
  | .iface _ d => uptoBulk d + 1
  | .map entries => uptoBulkEntries entries + 1
  | .held _ => 1
def uptoBulkAll {H : Type} : List (DataW H) → Nat
  | [] => 0
  | d :: r => uptoBulk d + uptoBulkAll r
def uptoBulkEntries {H : Type} : List (Lit × DataW H) → Nat
  | [] => 0
  | x :: r => uptoBulkEntry x + uptoBulkEntries r
def uptoBulkEntry {H : Type} : Lit × DataW H → Nat
  | (.string bytes, d) => bytes.length + uptoBulk d + 1
  | (_, d) => uptoBulk d + 1
 end
def uptoSmall : (H : Type) → List (DataW H) → Bool := fun _ ds => decide (uptoBulkAll ds ≤ 1048576)
def OpenSpec.upto (s : _root_.Go.ChangeSpec) : _root_.Go.OpenSpec := { _root_.Go.OpenSpec.ofChange s with cond := some uptoSmall }

/-- 'limnerlaw17.TreeDeep', WHERE WHAT IT READS IS OF BULK AT MOST 1048576: true; the input reads as it did. -/
def treeDeepUptoRow : OpenClaim := { program := "ytfdeckdongonnab", sum := "89003bd60b1fe3c3cec5f300d0592e0f887c4bb7b4a83eefd3656fae265f48c0", func := "limner/limnerlaw17.TreeDeep", spec := "treeDeep", inPlace := ["slices.overlaps[int]"], unfollowed := true, recurses := true, apart := false, narrowed := true }
def TreeDeepUptoSaid : Prop := treeDeepUptoRow.holds Try.pinned (OpenSpec.upto treeDeepSpec)

/-- 'limnerlaw17.TreePlays', WHERE WHAT IT READS IS OF BULK AT MOST 1048576: true; the input reads as it did. -/
def treePlaysUptoRow : OpenClaim := { program := "ytfdeckdongonnab", sum := "89003bd60b1fe3c3cec5f300d0592e0f887c4bb7b4a83eefd3656fae265f48c0", func := "limner/limnerlaw17.TreePlays", spec := "treePlays", inPlace := ["slices.overlaps[int]"], unfollowed := true, recurses := true, apart := false, narrowed := true }
def TreePlaysUptoSaid : Prop := treePlaysUptoRow.holds Try.pinned (OpenSpec.upto treePlaysSpec)

/-- 'limnerlaw17.TreeCopies', WHERE WHAT IT READS IS OF BULK AT MOST 1048576: true; the input reads as it did. -/
def treeCopiesUptoRow : OpenClaim := { program := "ytfdeckdongonnab", sum := "89003bd60b1fe3c3cec5f300d0592e0f887c4bb7b4a83eefd3656fae265f48c0", func := "limner/limnerlaw17.TreeCopies", spec := "treeCopies", inPlace := ["slices.overlaps[int]"], unfollowed := true, recurses := true, apart := false, narrowed := true }
def TreeCopiesUptoSaid : Prop := treeCopiesUptoRow.holds Try.pinned (OpenSpec.upto treeCopiesSpec)

/-- 'limnerlaw17.TreeApart', WHERE WHAT IT READS IS OF BULK AT MOST 1048576: true; the input reads as it did. -/
def treeApartUptoRow : OpenClaim := { program := "ytfdeckdongonnab", sum := "89003bd60b1fe3c3cec5f300d0592e0f887c4bb7b4a83eefd3656fae265f48c0", func := "limner/limnerlaw17.TreeApart", spec := "treeApart", inPlace := ["slices.overlaps[int]"], unfollowed := true, recurses := true, apart := false, narrowed := true }
def TreeApartUptoSaid : Prop := treeApartUptoRow.holds Try.pinned (OpenSpec.upto treeApartSpec)

/-- 'limnerlaw17.TreeUndo', WHERE WHAT IT READS IS OF BULK AT MOST 1048576: true; the input reads as it did. -/
def treeUndoUptoRow : OpenClaim := { program := "ytfdeckdongonnab", sum := "89003bd60b1fe3c3cec5f300d0592e0f887c4bb7b4a83eefd3656fae265f48c0", func := "limner/limnerlaw17.TreeUndo", spec := "treeUndo", inPlace := ["slices.overlaps[int]"], unfollowed := true, recurses := true, apart := false, narrowed := true }
def TreeUndoUptoSaid : Prop := treeUndoUptoRow.holds Try.pinned (OpenSpec.upto treeUndoSpec)

/-- 'limnerlaw17.TreeFinds', WHERE WHAT IT READS IS OF BULK AT MOST 1048576: true; the input reads as it did. -/
def treeFindsUptoRow : OpenClaim := { program := "ytfdeckdongonnab", sum := "89003bd60b1fe3c3cec5f300d0592e0f887c4bb7b4a83eefd3656fae265f48c0", func := "limner/limnerlaw17.TreeFinds", spec := "treeFinds", inPlace := ["slices.overlaps[int]"], unfollowed := true, recurses := true, apart := false, narrowed := true }
def TreeFindsUptoSaid : Prop := treeFindsUptoRow.holds Try.pinned (OpenSpec.upto treeFindsSpec)

end Rows
end Go.Proofs.Ytfdeckdongonnab
