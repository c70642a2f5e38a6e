/-
  NARROWER THAN 'FOR EVERY INPUT', by the rows' own cells (each row's printed sentence says how): CodeReads: laid · CodeCommands: laid · CodeLists: laid · CodeListsRead: laid · CodeEntries: laid.
  DERIVED. THE GIVEN ROWS OF THIS SEAT. 5 by the template 'for every input the law returns true; each argument reads behind the call as it read before'; 0 by the template 'total and deterministic' (their statements: YtfdeckdongonnaaDoorTotals.lean).
  GIVEN WITH THE SEED: the statements are not yours to turn. If you find one false, say at which input.
  Laid BY PROGRAM, IN A SANDBOX (cutbox-rows.mjs): the forced cells as the released guide's own fill.sh prints them over the translation 61a05c34ee464c7e… (all of the seat's roots in one cut). By AI agents, Wed Nov 11 2026. No macro, syntax, notation, axiom, sorry.
-/
import Derived.Test.YtfdeckdongonnaaDoorChecked
import GoSem.Claim
import GoSem.ClaimJoined
import GoSem.ClaimMapViews
import Derived.JoinedTies
import Derived.KernelRfl
namespace Go.Proofs.YtfdeckdongonnaaDoor
/- THE CELL 'sum', in the pinned program and in every row, IS THE sha256 OF THE DUMP (.gsa) THAT YtfdeckdongonnaaDoorProg.lean LOADS. Nothing in Lean hashes anything: it is a label: what it is worth is what the hold of that sum in a sandbox is worth. -/
noncomputable def Tryd.pinned : Pinned := { name := "ytfdeckdongonnaadoor", sum := "61a05c34ee464c7e4bb09e7183578656438cd754aa8b86ea0a264134ed87a899", checked := Tryd.checked }
namespace Rows
def none {H : Type} : Left H := { results := [], args := [] }

/- WHAT THE LISTED PACKAGE-LEVEL VARIABLES READ AS WHEN THE CALL BEGINS. Each datum BY PROGRAM (the guide's laid-datum.mjs) off the statement by which the dump's own 'gosem.cut.vars' lays the variable. In a bare row this is a premise. The card (YtfdeckdongonnaaDoorCards.lean) ties it to the program's text. -/
def laid_limner_path_needs {H : Type} : DataW H := .agg [.lit (.int .i64 0), .lit (.int .i64 1), .lit (.int .i64 1), .lit (.int .i64 2), .lit (.int .i64 3), .lit (.int .i64 0)]

/-- 'limnerlaw19.CodeReads': WHATEVER THE INPUT: true; the input reads as it did. -/
def codeReadsSpec : ChangeSpec := { name := "codeReads", fn := fun _ => fun
  | [d] => { results := [.lit (.bool true)], args := [d] }
  | _ => none }
def codeReadsRow : OpenClaim := { program := "ytfdeckdongonnaadoor", sum := "61a05c34ee464c7e4bb09e7183578656438cd754aa8b86ea0a264134ed87a899", func := "limner/limnerlaw19.CodeReads", spec := "codeReads", unfollowed := true, recurses := true, named := ["limner/path.needs"], apart := false, laid := [("limner/path.needs", laid_limner_path_needs)] }
def CodeReadsSaid : Prop := codeReadsRow.holds Tryd.pinned (OpenSpec.ofChange codeReadsSpec)

/-- ITS FALSE NEIGHBOUR: 'it returns false'. Refute it at one input. -/
def codeReadsWrong : ChangeSpec := { name := "codeReads", fn := fun _ => fun
  | [d] => { results := [.lit (.bool false)], args := [d] }
  | _ => none }
def CodeReadsWrongFalsely : Prop := codeReadsRow.holds Tryd.pinned (OpenSpec.ofChange codeReadsWrong)

/-- 'limnerlaw19.CodeCommands': WHATEVER THE INPUT: true; the input reads as it did. -/
def codeCommandsSpec : ChangeSpec := { name := "codeCommands", fn := fun _ => fun
  | [d] => { results := [.lit (.bool true)], args := [d] }
  | _ => none }
def codeCommandsRow : OpenClaim := { program := "ytfdeckdongonnaadoor", sum := "61a05c34ee464c7e4bb09e7183578656438cd754aa8b86ea0a264134ed87a899", func := "limner/limnerlaw19.CodeCommands", spec := "codeCommands", unfollowed := true, recurses := true, named := ["limner/path.needs"], apart := false, laid := [("limner/path.needs", laid_limner_path_needs)] }
def CodeCommandsSaid : Prop := codeCommandsRow.holds Tryd.pinned (OpenSpec.ofChange codeCommandsSpec)

/-- ITS FALSE NEIGHBOUR: 'it returns false'. Refute it at one input. -/
def codeCommandsWrong : ChangeSpec := { name := "codeCommands", fn := fun _ => fun
  | [d] => { results := [.lit (.bool false)], args := [d] }
  | _ => none }
def CodeCommandsWrongFalsely : Prop := codeCommandsRow.holds Tryd.pinned (OpenSpec.ofChange codeCommandsWrong)

/-- 'limnerlaw19.CodeLists': WHATEVER THE INPUT: true; the input reads as it did. -/
def codeListsSpec : ChangeSpec := { name := "codeLists", fn := fun _ => fun
  | [d] => { results := [.lit (.bool true)], args := [d] }
  | _ => none }
def codeListsRow : OpenClaim := { program := "ytfdeckdongonnaadoor", sum := "61a05c34ee464c7e4bb09e7183578656438cd754aa8b86ea0a264134ed87a899", func := "limner/limnerlaw19.CodeLists", spec := "codeLists", unfollowed := true, recurses := true, named := ["limner/path.needs"], apart := false, laid := [("limner/path.needs", laid_limner_path_needs)] }
def CodeListsSaid : Prop := codeListsRow.holds Tryd.pinned (OpenSpec.ofChange codeListsSpec)

/-- ITS FALSE NEIGHBOUR: 'it returns false'. Refute it at one input. -/
def codeListsWrong : ChangeSpec := { name := "codeLists", fn := fun _ => fun
  | [d] => { results := [.lit (.bool false)], args := [d] }
  | _ => none }
def CodeListsWrongFalsely : Prop := codeListsRow.holds Tryd.pinned (OpenSpec.ofChange codeListsWrong)

/-- 'limnerlaw19.CodeListsRead': WHATEVER THE INPUT: true; the input reads as it did. -/
def codeListsReadSpec : ChangeSpec := { name := "codeListsRead", fn := fun _ => fun
  | [d] => { results := [.lit (.bool true)], args := [d] }
  | _ => none }
def codeListsReadRow : OpenClaim := { program := "ytfdeckdongonnaadoor", sum := "61a05c34ee464c7e4bb09e7183578656438cd754aa8b86ea0a264134ed87a899", func := "limner/limnerlaw19.CodeListsRead", spec := "codeListsRead", unfollowed := true, recurses := true, named := ["limner/path.needs"], apart := false, laid := [("limner/path.needs", laid_limner_path_needs)] }
def CodeListsReadSaid : Prop := codeListsReadRow.holds Tryd.pinned (OpenSpec.ofChange codeListsReadSpec)

/-- ITS FALSE NEIGHBOUR: 'it returns false'. Refute it at one input. -/
def codeListsReadWrong : ChangeSpec := { name := "codeListsRead", fn := fun _ => fun
  | [d] => { results := [.lit (.bool false)], args := [d] }
  | _ => none }
def CodeListsReadWrongFalsely : Prop := codeListsReadRow.holds Tryd.pinned (OpenSpec.ofChange codeListsReadWrong)

/-- 'limnerlaw19.CodeEntries': WHATEVER THE INPUT: true; the input reads as it did. -/
def codeEntriesSpec : ChangeSpec := { name := "codeEntries", fn := fun _ => fun
  | [d] => { results := [.lit (.bool true)], args := [d] }
  | _ => none }
def codeEntriesRow : OpenClaim := { program := "ytfdeckdongonnaadoor", sum := "61a05c34ee464c7e4bb09e7183578656438cd754aa8b86ea0a264134ed87a899", func := "limner/limnerlaw19.CodeEntries", spec := "codeEntries", unfollowed := true, recurses := true, named := ["limner/path.needs"], apart := false, laid := [("limner/path.needs", laid_limner_path_needs)] }
def CodeEntriesSaid : Prop := codeEntriesRow.holds Tryd.pinned (OpenSpec.ofChange codeEntriesSpec)

/-- ITS FALSE NEIGHBOUR: 'it returns false'. Refute it at one input. -/
def codeEntriesWrong : ChangeSpec := { name := "codeEntries", fn := fun _ => fun
  | [d] => { results := [.lit (.bool false)], args := [d] }
  | _ => none }
def CodeEntriesWrongFalsely : Prop := codeEntriesRow.holds Tryd.pinned (OpenSpec.ofChange codeEntriesWrong)

/- THE SECOND FORM. 'bulk': how many values and letters a reading holds, each counted each time it is reached (what is shared counts as often as it is met; a slice's spare places count too). A statement '..UptoSaid' is the law's where the arguments, and the package variables that the reading takes, are together of bulk at most 1048576: NARROWER than '..Said'. Prove '..Said' where nothing that the law and all that it calls make is longer than what came in: it says more and counts as full. Else prove '..UptoSaid'. A law counts once. -/
mutual
def uptoBulk {H : Type} : DataW H → Nat
  | .lit (.string bytes) => bytes.length + 1
  | .lit _ => 1
  | .nil => 1
  | .ptr d => uptoBulk d + 1
  | .slice elems spare => uptoBulkAll elems + uptoBulkAll spare + 1
  | .agg parts => uptoBulkAll parts + 1
  | .iface _ d => uptoBulk d + 1
  | .map entries => uptoBulkEntries entries + 1
  | .held _ => 1
def uptoBulkAll {H : Type} : List (DataW H) → Nat
  | [] => 0
  | d :: r => uptoBulk d + uptoBulkAll r
def uptoBulkEntries {H : Type} : List (Lit × DataW H) → Nat
  | [] => 0
  | x :: r => uptoBulkEntry x + uptoBulkEntries r
def uptoBulkEntry {H : Type} : Lit × DataW H → Nat
  | (.string bytes, d) => bytes.length + uptoBulk d + 1
  | (_, d) => uptoBulk d + 1
 end
def uptoSmall : (H : Type) → List (DataW H) → Bool := fun _ ds => decide (uptoBulkAll ds ≤ 1048576)
def OpenSpec.upto (s : _root_.Go.ChangeSpec) : _root_.Go.OpenSpec := { _root_.Go.OpenSpec.ofChange s with cond := some uptoSmall }

/-- 'limnerlaw19.CodeReads', WHERE WHAT IT READS IS OF BULK AT MOST 1048576: true; the input reads as it did. -/
def codeReadsUptoRow : OpenClaim := { program := "ytfdeckdongonnaadoor", sum := "61a05c34ee464c7e4bb09e7183578656438cd754aa8b86ea0a264134ed87a899", func := "limner/limnerlaw19.CodeReads", spec := "codeReads", unfollowed := true, recurses := true, named := ["limner/path.needs"], apart := false, laid := [("limner/path.needs", laid_limner_path_needs)], narrowed := true }
def CodeReadsUptoSaid : Prop := codeReadsUptoRow.holds Tryd.pinned (OpenSpec.upto codeReadsSpec)

/-- 'limnerlaw19.CodeCommands', WHERE WHAT IT READS IS OF BULK AT MOST 1048576: true; the input reads as it did. -/
def codeCommandsUptoRow : OpenClaim := { program := "ytfdeckdongonnaadoor", sum := "61a05c34ee464c7e4bb09e7183578656438cd754aa8b86ea0a264134ed87a899", func := "limner/limnerlaw19.CodeCommands", spec := "codeCommands", unfollowed := true, recurses := true, named := ["limner/path.needs"], apart := false, laid := [("limner/path.needs", laid_limner_path_needs)], narrowed := true }
def CodeCommandsUptoSaid : Prop := codeCommandsUptoRow.holds Tryd.pinned (OpenSpec.upto codeCommandsSpec)

/-- 'limnerlaw19.CodeLists', WHERE WHAT IT READS IS OF BULK AT MOST 1048576: true; the input reads as it did. -/
def codeListsUptoRow : OpenClaim := { program := "ytfdeckdongonnaadoor", sum := "61a05c34ee464c7e4bb09e7183578656438cd754aa8b86ea0a264134ed87a899", func := "limner/limnerlaw19.CodeLists", spec := "codeLists", unfollowed := true, recurses := true, named := ["limner/path.needs"], apart := false, laid := [("limner/path.needs", laid_limner_path_needs)], narrowed := true }
def CodeListsUptoSaid : Prop := codeListsUptoRow.holds Tryd.pinned (OpenSpec.upto codeListsSpec)

/-- 'limnerlaw19.CodeListsRead', WHERE WHAT IT READS IS OF BULK AT MOST 1048576: true; the input reads as it did. -/
def codeListsReadUptoRow : OpenClaim := { program := "ytfdeckdongonnaadoor", sum := "61a05c34ee464c7e4bb09e7183578656438cd754aa8b86ea0a264134ed87a899", func := "limner/limnerlaw19.CodeListsRead", spec := "codeListsRead", unfollowed := true, recurses := true, named := ["limner/path.needs"], apart := false, laid := [("limner/path.needs", laid_limner_path_needs)], narrowed := true }
def CodeListsReadUptoSaid : Prop := codeListsReadUptoRow.holds Tryd.pinned (OpenSpec.upto codeListsReadSpec)

/-- 'limnerlaw19.CodeEntries', WHERE WHAT IT READS IS OF BULK AT MOST 1048576: true; the input reads as it did. -/
def codeEntriesUptoRow : OpenClaim := { program := "ytfdeckdongonnaadoor", sum := "61a05c34ee464c7e4bb09e7183578656438cd754aa8b86ea0a264134ed87a899", func := "limner/limnerlaw19.CodeEntries", spec := "codeEntries", unfollowed := true, recurses := true, named := ["limner/path.needs"], apart := false, laid := [("limner/path.needs", laid_limner_path_needs)], narrowed := true }
def CodeEntriesUptoSaid : Prop := codeEntriesUptoRow.holds Tryd.pinned (OpenSpec.upto codeEntriesSpec)

end Rows
end Go.Proofs.YtfdeckdongonnaaDoor
