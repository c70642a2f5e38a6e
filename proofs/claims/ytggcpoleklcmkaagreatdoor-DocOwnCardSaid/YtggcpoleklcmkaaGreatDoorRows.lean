/-
  NARROWER THAN 'FOR EVERY INPUT', by the rows' own cells (each row's printed sentence says how): DocAttrs: laid · DocPlays: laid · DocBacks: laid · DocCopies: laid · DocOwn: laid · DocBack: laid · DocLoads: laid · HistoryBound: laid · HistoryPlays: laid · HistoryUndo: laid · HistoryAll: laid.
  DERIVED. THE GIVEN ROWS OF THIS SEAT. 11 by the template 'for every input the law returns true; each argument reads behind the call as it read before'; 0 by the template 'total and deterministic' (their statements: YtggcpoleklcmkaaGreatDoorTotals.lean).
  GIVEN WITH THE SEED: the statements are not yours to turn. If you find one false, say at which input.
  Laid BY PROGRAM, IN A SANDBOX (cutbox-rows.mjs): the forced cells as the released guide's own fill.sh prints them over the translation 9a5472073ff5f827… (all of the seat's roots in one cut). By AI agents, Wed Nov 11 2026. No macro, syntax, notation, axiom, sorry.
-/
import Derived.Test.YtggcpoleklcmkaaGreatDoorChecked
import GoSem.Claim
import GoSem.ClaimJoined
import GoSem.ClaimMapViews
import Derived.JoinedTies
import Derived.KernelRfl
namespace Go.Proofs.YtggcpoleklcmkaaGreatDoor
/- THE CELL 'sum', in the pinned program and in every row, IS THE sha256 OF THE DUMP (.gsa) THAT YtggcpoleklcmkaaGreatDoorProg.lean LOADS. Nothing in Lean hashes anything: it is a label: what it is worth is what the hold of that sum in a sandbox is worth. -/
noncomputable def Tryz.pinned : Pinned := { name := "ytggcpoleklcmkaagreatdoor", sum := "9a5472073ff5f82707f63a8407be8399d0d380bc6ab25e8a2d50b6556f2d95d6", checked := Tryz.checked }
namespace Rows
def none {H : Type} : Left H := { results := [], args := [] }

/- WHAT THE LISTED PACKAGE-LEVEL VARIABLES READ AS WHEN THE CALL BEGINS. Each datum BY PROGRAM (the guide's laid-datum.mjs) off the statement by which the dump's own 'gosem.cut.vars' lays the variable. In a bare row this is a premise. The card (YtggcpoleklcmkaaGreatDoorCards.lean) ties it to the program's text. -/
def laid_limner_path_needs {H : Type} : DataW H := .agg [.lit (.int .i64 0), .lit (.int .i64 1), .lit (.int .i64 1), .lit (.int .i64 2), .lit (.int .i64 3), .lit (.int .i64 0)]

/-- 'limnerlaw18.DocAttrs': WHATEVER THE INPUT: true; the input reads as it did. -/
def docAttrsSpec : ChangeSpec := { name := "docAttrs", fn := fun _ => fun
  | [d1, d2] => { results := [.lit (.bool true)], args := [d1, d2] }
  | _ => none }
def docAttrsRow : OpenClaim := { program := "ytggcpoleklcmkaagreatdoor", sum := "9a5472073ff5f82707f63a8407be8399d0d380bc6ab25e8a2d50b6556f2d95d6", func := "limner/limnerlaw18.DocAttrs", spec := "docAttrs", inPlace := ["slices.overlaps[int]"], unfollowed := true, recurses := true, named := ["limner/path.needs"], apart := false, laid := [("limner/path.needs", laid_limner_path_needs)] }
def DocAttrsSaid : Prop := docAttrsRow.holds Tryz.pinned (OpenSpec.ofChange docAttrsSpec)

/-- ITS FALSE NEIGHBOUR: 'it returns false'. Refute it at one input. -/
def docAttrsWrong : ChangeSpec := { name := "docAttrs", fn := fun _ => fun
  | [d1, d2] => { results := [.lit (.bool false)], args := [d1, d2] }
  | _ => none }
def DocAttrsWrongFalsely : Prop := docAttrsRow.holds Tryz.pinned (OpenSpec.ofChange docAttrsWrong)

/-- 'limnerlaw18.DocPlays': WHATEVER THE INPUT: true; the input reads as it did. -/
def docPlaysSpec : ChangeSpec := { name := "docPlays", fn := fun _ => fun
  | [d] => { results := [.lit (.bool true)], args := [d] }
  | _ => none }
def docPlaysRow : OpenClaim := { program := "ytggcpoleklcmkaagreatdoor", sum := "9a5472073ff5f82707f63a8407be8399d0d380bc6ab25e8a2d50b6556f2d95d6", func := "limner/limnerlaw18.DocPlays", spec := "docPlays", inPlace := ["slices.overlaps[int]"], unfollowed := true, recurses := true, named := ["limner/path.needs"], apart := false, laid := [("limner/path.needs", laid_limner_path_needs)] }
def DocPlaysSaid : Prop := docPlaysRow.holds Tryz.pinned (OpenSpec.ofChange docPlaysSpec)

/-- ITS FALSE NEIGHBOUR: 'it returns false'. Refute it at one input. -/
def docPlaysWrong : ChangeSpec := { name := "docPlays", fn := fun _ => fun
  | [d] => { results := [.lit (.bool false)], args := [d] }
  | _ => none }
def DocPlaysWrongFalsely : Prop := docPlaysRow.holds Tryz.pinned (OpenSpec.ofChange docPlaysWrong)

/-- 'limnerlaw18.DocBacks': WHATEVER THE INPUT: true; the input reads as it did. -/
def docBacksSpec : ChangeSpec := { name := "docBacks", fn := fun _ => fun
  | [d1, d2] => { results := [.lit (.bool true)], args := [d1, d2] }
  | _ => none }
def docBacksRow : OpenClaim := { program := "ytggcpoleklcmkaagreatdoor", sum := "9a5472073ff5f82707f63a8407be8399d0d380bc6ab25e8a2d50b6556f2d95d6", func := "limner/limnerlaw18.DocBacks", spec := "docBacks", inPlace := ["slices.overlaps[int]"], unfollowed := true, recurses := true, named := ["limner/path.needs"], apart := false, laid := [("limner/path.needs", laid_limner_path_needs)] }
def DocBacksSaid : Prop := docBacksRow.holds Tryz.pinned (OpenSpec.ofChange docBacksSpec)

/-- ITS FALSE NEIGHBOUR: 'it returns false'. Refute it at one input. -/
def docBacksWrong : ChangeSpec := { name := "docBacks", fn := fun _ => fun
  | [d1, d2] => { results := [.lit (.bool false)], args := [d1, d2] }
  | _ => none }
def DocBacksWrongFalsely : Prop := docBacksRow.holds Tryz.pinned (OpenSpec.ofChange docBacksWrong)

/-- 'limnerlaw18.DocCopies': WHATEVER THE INPUT: true; the input reads as it did. -/
def docCopiesSpec : ChangeSpec := { name := "docCopies", fn := fun _ => fun
  | [d1, d2] => { results := [.lit (.bool true)], args := [d1, d2] }
  | _ => none }
def docCopiesRow : OpenClaim := { program := "ytggcpoleklcmkaagreatdoor", sum := "9a5472073ff5f82707f63a8407be8399d0d380bc6ab25e8a2d50b6556f2d95d6", func := "limner/limnerlaw18.DocCopies", spec := "docCopies", inPlace := ["slices.overlaps[int]", "maps.clone"], unfollowed := true, recurses := true, named := ["limner/path.needs"], apart := false, laid := [("limner/path.needs", laid_limner_path_needs)] }
def DocCopiesSaid : Prop := docCopiesRow.holds Tryz.pinned (OpenSpec.ofChange docCopiesSpec)

/-- ITS FALSE NEIGHBOUR: 'it returns false'. Refute it at one input. -/
def docCopiesWrong : ChangeSpec := { name := "docCopies", fn := fun _ => fun
  | [d1, d2] => { results := [.lit (.bool false)], args := [d1, d2] }
  | _ => none }
def DocCopiesWrongFalsely : Prop := docCopiesRow.holds Tryz.pinned (OpenSpec.ofChange docCopiesWrong)

/-- 'limnerlaw18.DocOwn': WHATEVER THE INPUT: true; the input reads as it did. -/
def docOwnSpec : ChangeSpec := { name := "docOwn", fn := fun _ => fun
  | [d] => { results := [.lit (.bool true)], args := [d] }
  | _ => none }
def docOwnRow : OpenClaim := { program := "ytggcpoleklcmkaagreatdoor", sum := "9a5472073ff5f82707f63a8407be8399d0d380bc6ab25e8a2d50b6556f2d95d6", func := "limner/limnerlaw18.DocOwn", spec := "docOwn", inPlace := ["slices.overlaps[int]"], unfollowed := true, recurses := true, named := ["limner/path.needs"], apart := false, laid := [("limner/path.needs", laid_limner_path_needs)] }
def DocOwnSaid : Prop := docOwnRow.holds Tryz.pinned (OpenSpec.ofChange docOwnSpec)

/-- ITS FALSE NEIGHBOUR: 'it returns false'. Refute it at one input. -/
def docOwnWrong : ChangeSpec := { name := "docOwn", fn := fun _ => fun
  | [d] => { results := [.lit (.bool false)], args := [d] }
  | _ => none }
def DocOwnWrongFalsely : Prop := docOwnRow.holds Tryz.pinned (OpenSpec.ofChange docOwnWrong)

/-- 'limnerlaw18.DocBack': WHATEVER THE INPUT: true; the input reads as it did. -/
def docBackSpec : ChangeSpec := { name := "docBack", fn := fun _ => fun
  | [d1, d2] => { results := [.lit (.bool true)], args := [d1, d2] }
  | _ => none }
def docBackRow : OpenClaim := { program := "ytggcpoleklcmkaagreatdoor", sum := "9a5472073ff5f82707f63a8407be8399d0d380bc6ab25e8a2d50b6556f2d95d6", func := "limner/limnerlaw18.DocBack", spec := "docBack", inPlace := ["slices.overlaps[int]"], unfollowed := true, recurses := true, named := ["limner/path.needs"], apart := false, laid := [("limner/path.needs", laid_limner_path_needs)] }
def DocBackSaid : Prop := docBackRow.holds Tryz.pinned (OpenSpec.ofChange docBackSpec)

/-- ITS FALSE NEIGHBOUR: 'it returns false'. Refute it at one input. -/
def docBackWrong : ChangeSpec := { name := "docBack", fn := fun _ => fun
  | [d1, d2] => { results := [.lit (.bool false)], args := [d1, d2] }
  | _ => none }
def DocBackWrongFalsely : Prop := docBackRow.holds Tryz.pinned (OpenSpec.ofChange docBackWrong)

/-- 'limnerlaw18.DocLoads': WHATEVER THE INPUT: true; the input reads as it did. -/
def docLoadsSpec : ChangeSpec := { name := "docLoads", fn := fun _ => fun
  | [d1, d2] => { results := [.lit (.bool true)], args := [d1, d2] }
  | _ => none }
def docLoadsRow : OpenClaim := { program := "ytggcpoleklcmkaagreatdoor", sum := "9a5472073ff5f82707f63a8407be8399d0d380bc6ab25e8a2d50b6556f2d95d6", func := "limner/limnerlaw18.DocLoads", spec := "docLoads", inPlace := ["slices.overlaps[int]"], unfollowed := true, recurses := true, named := ["limner/path.needs"], apart := false, laid := [("limner/path.needs", laid_limner_path_needs)] }
def DocLoadsSaid : Prop := docLoadsRow.holds Tryz.pinned (OpenSpec.ofChange docLoadsSpec)

/-- ITS FALSE NEIGHBOUR: 'it returns false'. Refute it at one input. -/
def docLoadsWrong : ChangeSpec := { name := "docLoads", fn := fun _ => fun
  | [d1, d2] => { results := [.lit (.bool false)], args := [d1, d2] }
  | _ => none }
def DocLoadsWrongFalsely : Prop := docLoadsRow.holds Tryz.pinned (OpenSpec.ofChange docLoadsWrong)

/-- 'limnerlaw20.HistoryBound': WHATEVER THE INPUT: true; the input reads as it did. -/
def historyBoundSpec : ChangeSpec := { name := "historyBound", fn := fun _ => fun
  | [d1, d2] => { results := [.lit (.bool true)], args := [d1, d2] }
  | _ => none }
def historyBoundRow : OpenClaim := { program := "ytggcpoleklcmkaagreatdoor", sum := "9a5472073ff5f82707f63a8407be8399d0d380bc6ab25e8a2d50b6556f2d95d6", func := "limner/limnerlaw20.HistoryBound", spec := "historyBound", inPlace := ["slices.overlaps[int]", "maps.clone"], unfollowed := true, recurses := true, named := ["limner/path.needs"], apart := false, laid := [("limner/path.needs", laid_limner_path_needs)] }
def HistoryBoundSaid : Prop := historyBoundRow.holds Tryz.pinned (OpenSpec.ofChange historyBoundSpec)

/-- ITS FALSE NEIGHBOUR: 'it returns false'. Refute it at one input. -/
def historyBoundWrong : ChangeSpec := { name := "historyBound", fn := fun _ => fun
  | [d1, d2] => { results := [.lit (.bool false)], args := [d1, d2] }
  | _ => none }
def HistoryBoundWrongFalsely : Prop := historyBoundRow.holds Tryz.pinned (OpenSpec.ofChange historyBoundWrong)

/-- 'limnerlaw20.HistoryPlays': WHATEVER THE INPUT: true; the input reads as it did. -/
def historyPlaysSpec : ChangeSpec := { name := "historyPlays", fn := fun _ => fun
  | [d1, d2] => { results := [.lit (.bool true)], args := [d1, d2] }
  | _ => none }
def historyPlaysRow : OpenClaim := { program := "ytggcpoleklcmkaagreatdoor", sum := "9a5472073ff5f82707f63a8407be8399d0d380bc6ab25e8a2d50b6556f2d95d6", func := "limner/limnerlaw20.HistoryPlays", spec := "historyPlays", inPlace := ["slices.overlaps[int]", "maps.clone"], unfollowed := true, recurses := true, named := ["limner/path.needs"], apart := false, laid := [("limner/path.needs", laid_limner_path_needs)] }
def HistoryPlaysSaid : Prop := historyPlaysRow.holds Tryz.pinned (OpenSpec.ofChange historyPlaysSpec)

/-- ITS FALSE NEIGHBOUR: 'it returns false'. Refute it at one input. -/
def historyPlaysWrong : ChangeSpec := { name := "historyPlays", fn := fun _ => fun
  | [d1, d2] => { results := [.lit (.bool false)], args := [d1, d2] }
  | _ => none }
def HistoryPlaysWrongFalsely : Prop := historyPlaysRow.holds Tryz.pinned (OpenSpec.ofChange historyPlaysWrong)

/-- 'limnerlaw20.HistoryUndo': WHATEVER THE INPUT: true; the input reads as it did. -/
def historyUndoSpec : ChangeSpec := { name := "historyUndo", fn := fun _ => fun
  | [d1, d2] => { results := [.lit (.bool true)], args := [d1, d2] }
  | _ => none }
def historyUndoRow : OpenClaim := { program := "ytggcpoleklcmkaagreatdoor", sum := "9a5472073ff5f82707f63a8407be8399d0d380bc6ab25e8a2d50b6556f2d95d6", func := "limner/limnerlaw20.HistoryUndo", spec := "historyUndo", inPlace := ["slices.overlaps[int]", "maps.clone"], unfollowed := true, recurses := true, named := ["limner/path.needs"], apart := false, laid := [("limner/path.needs", laid_limner_path_needs)] }
def HistoryUndoSaid : Prop := historyUndoRow.holds Tryz.pinned (OpenSpec.ofChange historyUndoSpec)

/-- ITS FALSE NEIGHBOUR: 'it returns false'. Refute it at one input. -/
def historyUndoWrong : ChangeSpec := { name := "historyUndo", fn := fun _ => fun
  | [d1, d2] => { results := [.lit (.bool false)], args := [d1, d2] }
  | _ => none }
def HistoryUndoWrongFalsely : Prop := historyUndoRow.holds Tryz.pinned (OpenSpec.ofChange historyUndoWrong)

/-- 'limnerlaw20.HistoryAll': WHATEVER THE INPUT: true; the input reads as it did. -/
def historyAllSpec : ChangeSpec := { name := "historyAll", fn := fun _ => fun
  | [d1, d2] => { results := [.lit (.bool true)], args := [d1, d2] }
  | _ => none }
def historyAllRow : OpenClaim := { program := "ytggcpoleklcmkaagreatdoor", sum := "9a5472073ff5f82707f63a8407be8399d0d380bc6ab25e8a2d50b6556f2d95d6", func := "limner/limnerlaw20.HistoryAll", spec := "historyAll", inPlace := ["slices.overlaps[int]", "maps.clone"], unfollowed := true, recurses := true, named := ["limner/path.needs"], apart := false, laid := [("limner/path.needs", laid_limner_path_needs)] }
def HistoryAllSaid : Prop := historyAllRow.holds Tryz.pinned (OpenSpec.ofChange historyAllSpec)

/-- ITS FALSE NEIGHBOUR: 'it returns false'. Refute it at one input. -/
def historyAllWrong : ChangeSpec := { name := "historyAll", fn := fun _ => fun
  | [d1, d2] => { results := [.lit (.bool false)], args := [d1, d2] }
  | _ => none }
def HistoryAllWrongFalsely : Prop := historyAllRow.holds Tryz.pinned (OpenSpec.ofChange historyAllWrong)

/- THE SECOND FORM. 'bulk': how many values and letters a reading holds, each counted each time it is reached (what is shared counts as often as it is met; a slice's spare places count too). A statement '..UptoSaid' is the law's where the arguments, and the package variables that the reading takes, are together of bulk at most 1048576: NARROWER than '..Said'. Prove '..Said' where nothing that the law and all that it calls make is longer than what came in: it says more and counts as full. Else prove '..UptoSaid'. A law counts once. -/
mutual
def uptoBulk {H : Type} : DataW H → Nat
  | .lit (.string bytes) => bytes.length + 1
  | .lit _ => 1
  | .nil => 1
  | .ptr d => uptoBulk d + 1
  | .slice elems spare => uptoBulkAll elems + uptoBulkAll spare + 1
  | .agg parts => uptoBulkAll parts + 1
  | .iface _ d => uptoBulk d + 1
  | .map entries => uptoBulkEntries entries + 1
  | .held _ => 1
def uptoBulkAll {H : Type} : List (DataW H) → Nat
  | [] => 0
  | d :: r => uptoBulk d + uptoBulkAll r
def uptoBulkEntries {H : Type} : List (Lit × DataW H) → Nat
  | [] => 0
  | x :: r => uptoBulkEntry x + uptoBulkEntries r
def uptoBulkEntry {H : Type} : Lit × DataW H → Nat
  | (.string bytes, d) => bytes.length + uptoBulk d + 1
  | (_, d) => uptoBulk d + 1
 end
def uptoSmall : (H : Type) → List (DataW H) → Bool := fun _ ds => decide (uptoBulkAll ds ≤ 1048576)
def OpenSpec.upto (s : _root_.Go.ChangeSpec) : _root_.Go.OpenSpec := { _root_.Go.OpenSpec.ofChange s with cond := some uptoSmall }

/-- 'limnerlaw18.DocAttrs', WHERE WHAT IT READS IS OF BULK AT MOST 1048576: true; the input reads as it did. -/
def docAttrsUptoRow : OpenClaim := { program := "ytggcpoleklcmkaagreatdoor", sum := "9a5472073ff5f82707f63a8407be8399d0d380bc6ab25e8a2d50b6556f2d95d6", func := "limner/limnerlaw18.DocAttrs", spec := "docAttrs", inPlace := ["slices.overlaps[int]"], unfollowed := true, recurses := true, named := ["limner/path.needs"], apart := false, laid := [("limner/path.needs", laid_limner_path_needs)], narrowed := true }
def DocAttrsUptoSaid : Prop := docAttrsUptoRow.holds Tryz.pinned (OpenSpec.upto docAttrsSpec)

/-- 'limnerlaw18.DocPlays', WHERE WHAT IT READS IS OF BULK AT MOST 1048576: true; the input reads as it did. -/
def docPlaysUptoRow : OpenClaim := { program := "ytggcpoleklcmkaagreatdoor", sum := "9a5472073ff5f82707f63a8407be8399d0d380bc6ab25e8a2d50b6556f2d95d6", func := "limner/limnerlaw18.DocPlays", spec := "docPlays", inPlace := ["slices.overlaps[int]"], unfollowed := true, recurses := true, named := ["limner/path.needs"], apart := false, laid := [("limner/path.needs", laid_limner_path_needs)], narrowed := true }
def DocPlaysUptoSaid : Prop := docPlaysUptoRow.holds Tryz.pinned (OpenSpec.upto docPlaysSpec)

/-- 'limnerlaw18.DocBacks', WHERE WHAT IT READS IS OF BULK AT MOST 1048576: true; the input reads as it did. -/
def docBacksUptoRow : OpenClaim := { program := "ytggcpoleklcmkaagreatdoor", sum := "9a5472073ff5f82707f63a8407be8399d0d380bc6ab25e8a2d50b6556f2d95d6", func := "limner/limnerlaw18.DocBacks", spec := "docBacks", inPlace := ["slices.overlaps[int]"], unfollowed := true, recurses := true, named := ["limner/path.needs"], apart := false, laid := [("limner/path.needs", laid_limner_path_needs)], narrowed := true }
def DocBacksUptoSaid : Prop := docBacksUptoRow.holds Tryz.pinned (OpenSpec.upto docBacksSpec)

/-- 'limnerlaw18.DocCopies', WHERE WHAT IT READS IS OF BULK AT MOST 1048576: true; the input reads as it did. -/
def docCopiesUptoRow : OpenClaim := { program := "ytggcpoleklcmkaagreatdoor", sum := "9a5472073ff5f82707f63a8407be8399d0d380bc6ab25e8a2d50b6556f2d95d6", func := "limner/limnerlaw18.DocCopies", spec := "docCopies", inPlace := ["slices.overlaps[int]", "maps.clone"], unfollowed := true, recurses := true, named := ["limner/path.needs"], apart := false, laid := [("limner/path.needs", laid_limner_path_needs)], narrowed := true }
def DocCopiesUptoSaid : Prop := docCopiesUptoRow.holds Tryz.pinned (OpenSpec.upto docCopiesSpec)

/-- 'limnerlaw18.DocOwn', WHERE WHAT IT READS IS OF BULK AT MOST 1048576: true; the input reads as it did. -/
def docOwnUptoRow : OpenClaim := { program := "ytggcpoleklcmkaagreatdoor", sum := "9a5472073ff5f82707f63a8407be8399d0d380bc6ab25e8a2d50b6556f2d95d6", func := "limner/limnerlaw18.DocOwn", spec := "docOwn", inPlace := ["slices.overlaps[int]"], unfollowed := true, recurses := true, named := ["limner/path.needs"], apart := false, laid := [("limner/path.needs", laid_limner_path_needs)], narrowed := true }
def DocOwnUptoSaid : Prop := docOwnUptoRow.holds Tryz.pinned (OpenSpec.upto docOwnSpec)

/-- 'limnerlaw18.DocBack', WHERE WHAT IT READS IS OF BULK AT MOST 1048576: true; the input reads as it did. -/
def docBackUptoRow : OpenClaim := { program := "ytggcpoleklcmkaagreatdoor", sum := "9a5472073ff5f82707f63a8407be8399d0d380bc6ab25e8a2d50b6556f2d95d6", func := "limner/limnerlaw18.DocBack", spec := "docBack", inPlace := ["slices.overlaps[int]"], unfollowed := true, recurses := true, named := ["limner/path.needs"], apart := false, laid := [("limner/path.needs", laid_limner_path_needs)], narrowed := true }
def DocBackUptoSaid : Prop := docBackUptoRow.holds Tryz.pinned (OpenSpec.upto docBackSpec)

/-- 'limnerlaw18.DocLoads', WHERE WHAT IT READS IS OF BULK AT MOST 1048576: true; the input reads as it did. -/
def docLoadsUptoRow : OpenClaim := { program := "ytggcpoleklcmkaagreatdoor", sum := "9a5472073ff5f82707f63a8407be8399d0d380bc6ab25e8a2d50b6556f2d95d6", func := "limner/limnerlaw18.DocLoads", spec := "docLoads", inPlace := ["slices.overlaps[int]"], unfollowed := true, recurses := true, named := ["limner/path.needs"], apart := false, laid := [("limner/path.needs", laid_limner_path_needs)], narrowed := true }
def DocLoadsUptoSaid : Prop := docLoadsUptoRow.holds Tryz.pinned (OpenSpec.upto docLoadsSpec)

/-- 'limnerlaw20.HistoryBound', WHERE WHAT IT READS IS OF BULK AT MOST 1048576: true; the input reads as it did. -/
def historyBoundUptoRow : OpenClaim := { program := "ytggcpoleklcmkaagreatdoor", sum := "9a5472073ff5f82707f63a8407be8399d0d380bc6ab25e8a2d50b6556f2d95d6", func := "limner/limnerlaw20.HistoryBound", spec := "historyBound", inPlace := ["slices.overlaps[int]", "maps.clone"], unfollowed := true, recurses := true, named := ["limner/path.needs"], apart := false, laid := [("limner/path.needs", laid_limner_path_needs)], narrowed := true }
def HistoryBoundUptoSaid : Prop := historyBoundUptoRow.holds Tryz.pinned (OpenSpec.upto historyBoundSpec)

/-- 'limnerlaw20.HistoryPlays', WHERE WHAT IT READS IS OF BULK AT MOST 1048576: true; the input reads as it did. -/
def historyPlaysUptoRow : OpenClaim := { program := "ytggcpoleklcmkaagreatdoor", sum := "9a5472073ff5f82707f63a8407be8399d0d380bc6ab25e8a2d50b6556f2d95d6", func := "limner/limnerlaw20.HistoryPlays", spec := "historyPlays", inPlace := ["slices.overlaps[int]", "maps.clone"], unfollowed := true, recurses := true, named := ["limner/path.needs"], apart := false, laid := [("limner/path.needs", laid_limner_path_needs)], narrowed := true }
def HistoryPlaysUptoSaid : Prop := historyPlaysUptoRow.holds Tryz.pinned (OpenSpec.upto historyPlaysSpec)

/-- 'limnerlaw20.HistoryUndo', WHERE WHAT IT READS IS OF BULK AT MOST 1048576: true; the input reads as it did. -/
def historyUndoUptoRow : OpenClaim := { program := "ytggcpoleklcmkaagreatdoor", sum := "9a5472073ff5f82707f63a8407be8399d0d380bc6ab25e8a2d50b6556f2d95d6", func := "limner/limnerlaw20.HistoryUndo", spec := "historyUndo", inPlace := ["slices.overlaps[int]", "maps.clone"], unfollowed := true, recurses := true, named := ["limner/path.needs"], apart := false, laid := [("limner/path.needs", laid_limner_path_needs)], narrowed := true }
def HistoryUndoUptoSaid : Prop := historyUndoUptoRow.holds Tryz.pinned (OpenSpec.upto historyUndoSpec)

/-- 'limnerlaw20.HistoryAll', WHERE WHAT IT READS IS OF BULK AT MOST 1048576: true; the input reads as it did. -/
def historyAllUptoRow : OpenClaim := { program := "ytggcpoleklcmkaagreatdoor", sum := "9a5472073ff5f82707f63a8407be8399d0d380bc6ab25e8a2d50b6556f2d95d6", func := "limner/limnerlaw20.HistoryAll", spec := "historyAll", inPlace := ["slices.overlaps[int]", "maps.clone"], unfollowed := true, recurses := true, named := ["limner/path.needs"], apart := false, laid := [("limner/path.needs", laid_limner_path_needs)], narrowed := true }
def HistoryAllUptoSaid : Prop := historyAllUptoRow.holds Tryz.pinned (OpenSpec.upto historyAllSpec)

end Rows
end Go.Proofs.YtggcpoleklcmkaaGreatDoor
