/-
  NARROWER THAN 'FOR EVERY INPUT', by the rows' own cells (each row's printed sentence says how): PathTurned: laid · PathTies: laid · PathNone: laid · PathGrid: laid · PathEdges: laid · StoreStays: laid.
  DERIVED. THE GIVEN ROWS OF THIS SEAT. 6 by the template 'for every input the law returns true; each argument reads behind the call as it read before'; 0 by the template 'total and deterministic' (their statements: YtifddfbiehmmoaaGreatDoorTotals.lean).
  GIVEN WITH THE SEED: the statements are not yours to turn. If you find one false, say at which input.
  Laid BY PROGRAM, IN A SANDBOX (cutbox-rows.mjs): the forced cells as the released guide's own fill.sh prints them over the translation 4c02fa79c54f8c0a… (all of the seat's roots in one cut). By AI agents, Wed Nov 11 2026. No macro, syntax, notation, axiom, sorry.
-/
import Derived.Test.YtifddfbiehmmoaaGreatDoorChecked
import GoSem.PinnedTables
import GoSem.Claim
import GoSem.ClaimJoined
import GoSem.ClaimMapViews
import Derived.JoinedTies
import Derived.KernelRfl
namespace Go.Proofs.YtifddfbiehmmoaaGreatDoor
/- THE CELL 'sum', in the pinned program and in every row, IS THE sha256 OF THE DUMP (.gsa) THAT YtifddfbiehmmoaaGreatDoorProg.lean LOADS. Nothing in Lean hashes anything: it is a label: what it is worth is what the hold of that sum in a sandbox is worth. -/
noncomputable def Tryz.pinned : Pinned := { name := "ytifddfbiehmmoaagreatdoor", sum := "4c02fa79c54f8c0a7b154fbbe60eed9bb742122ba4db1de051f0800147bb4932", checked := Tryz.checked }
namespace Rows
def none {H : Type} : Left H := { results := [], args := [] }

/- WHAT THE LISTED PACKAGE-LEVEL VARIABLES READ AS WHEN THE CALL BEGINS. Each datum BY PROGRAM (the guide's laid-datum.mjs) off the statement by which the dump's own 'gosem.cut.vars' lays the variable. In a bare row this is a premise. The card (YtifddfbiehmmoaaGreatDoorCards.lean) ties it to the program's text. -/
def laid_unicode_utf8_acceptRanges {H : Type} : DataW H := .agg [.agg [.lit (.int .u8 128), .lit (.int .u8 191)], .agg [.lit (.int .u8 160), .lit (.int .u8 191)], .agg [.lit (.int .u8 128), .lit (.int .u8 159)], .agg [.lit (.int .u8 144), .lit (.int .u8 191)], .agg [.lit (.int .u8 128), .lit (.int .u8 143)], .agg [.lit (.int .u8 0), .lit (.int .u8 0)], .agg [.lit (.int .u8 0), .lit (.int .u8 0)], .agg [.lit (.int .u8 0), .lit (.int .u8 0)], .agg [.lit (.int .u8 0), .lit (.int .u8 0)], .agg [.lit (.int .u8 0), .lit (.int .u8 0)], .agg [.lit (.int .u8 0), .lit (.int .u8 0)], .agg [.lit (.int .u8 0), .lit (.int .u8 0)], .agg [.lit (.int .u8 0), .lit (.int .u8 0)], .agg [.lit (.int .u8 0), .lit (.int .u8 0)], .agg [.lit (.int .u8 0), .lit (.int .u8 0)], .agg [.lit (.int .u8 0), .lit (.int .u8 0)]]
/-- One of Go's own tables, pinned by name: the form's constant. -/
def laid_unicode_utf8_first : DataW Unit := Go.Pinned.utf8First

/-- 'ligaturelaw14.PathTurned': WHATEVER THE INPUT: true; the input reads as it did. -/
def pathTurnedSpec : ChangeSpec := { name := "pathTurned", fn := fun _ => fun
  | [d1, d2, d3, d4] => { results := [.lit (.bool true)], args := [d1, d2, d3, d4] }
  | _ => none }
def pathTurnedRow : OpenClaim := { program := "ytifddfbiehmmoaagreatdoor", sum := "4c02fa79c54f8c0a7b154fbbe60eed9bb742122ba4db1de051f0800147bb4932", func := "ligature/ligaturelaw14.PathTurned", spec := "pathTurned", inPlace := ["math.Float64bits", "math.Float64frombits", "internal/bytealg.IndexByteString", "internal/bytealg.IndexString", "slices.overlaps[ligature/api.Entry]"], unfollowed := true, recurses := true, named := ["unicode/utf8.first", "unicode/utf8.acceptRanges", "internal/bytealg.MaxLen"], apart := false, laid := [("unicode/utf8.acceptRanges", laid_unicode_utf8_acceptRanges), ("unicode/utf8.first", laid_unicode_utf8_first)] }
def PathTurnedSaid : Prop := pathTurnedRow.holds Tryz.pinned (OpenSpec.ofChange pathTurnedSpec)

/-- ITS FALSE NEIGHBOUR: 'it returns false'. Refute it at one input. -/
def pathTurnedWrong : ChangeSpec := { name := "pathTurned", fn := fun _ => fun
  | [d1, d2, d3, d4] => { results := [.lit (.bool false)], args := [d1, d2, d3, d4] }
  | _ => none }
def PathTurnedWrongFalsely : Prop := pathTurnedRow.holds Tryz.pinned (OpenSpec.ofChange pathTurnedWrong)

/-- 'ligaturelaw14.PathTies': WHATEVER THE INPUT: true; the input reads as it did. -/
def pathTiesSpec : ChangeSpec := { name := "pathTies", fn := fun _ => fun
  | [d1, d2, d3] => { results := [.lit (.bool true)], args := [d1, d2, d3] }
  | _ => none }
def pathTiesRow : OpenClaim := { program := "ytifddfbiehmmoaagreatdoor", sum := "4c02fa79c54f8c0a7b154fbbe60eed9bb742122ba4db1de051f0800147bb4932", func := "ligature/ligaturelaw14.PathTies", spec := "pathTies", inPlace := ["math.Float64bits", "math.Float64frombits", "internal/bytealg.IndexByteString", "internal/bytealg.IndexString", "slices.overlaps[ligature/api.Entry]"], unfollowed := true, recurses := true, named := ["unicode/utf8.first", "unicode/utf8.acceptRanges", "internal/bytealg.MaxLen"], apart := false, laid := [("unicode/utf8.acceptRanges", laid_unicode_utf8_acceptRanges), ("unicode/utf8.first", laid_unicode_utf8_first)] }
def PathTiesSaid : Prop := pathTiesRow.holds Tryz.pinned (OpenSpec.ofChange pathTiesSpec)

/-- ITS FALSE NEIGHBOUR: 'it returns false'. Refute it at one input. -/
def pathTiesWrong : ChangeSpec := { name := "pathTies", fn := fun _ => fun
  | [d1, d2, d3] => { results := [.lit (.bool false)], args := [d1, d2, d3] }
  | _ => none }
def PathTiesWrongFalsely : Prop := pathTiesRow.holds Tryz.pinned (OpenSpec.ofChange pathTiesWrong)

/-- 'ligaturelaw14.PathNone': WHATEVER THE INPUT: true; the input reads as it did. -/
def pathNoneSpec : ChangeSpec := { name := "pathNone", fn := fun _ => fun
  | [d1, d2, d3] => { results := [.lit (.bool true)], args := [d1, d2, d3] }
  | _ => none }
def pathNoneRow : OpenClaim := { program := "ytifddfbiehmmoaagreatdoor", sum := "4c02fa79c54f8c0a7b154fbbe60eed9bb742122ba4db1de051f0800147bb4932", func := "ligature/ligaturelaw14.PathNone", spec := "pathNone", inPlace := ["math.Float64bits", "math.Float64frombits", "internal/bytealg.IndexByteString", "internal/bytealg.IndexString", "slices.overlaps[ligature/api.Entry]"], unfollowed := true, recurses := true, named := ["unicode/utf8.first", "unicode/utf8.acceptRanges", "internal/bytealg.MaxLen"], apart := false, laid := [("unicode/utf8.acceptRanges", laid_unicode_utf8_acceptRanges), ("unicode/utf8.first", laid_unicode_utf8_first)] }
def PathNoneSaid : Prop := pathNoneRow.holds Tryz.pinned (OpenSpec.ofChange pathNoneSpec)

/-- ITS FALSE NEIGHBOUR: 'it returns false'. Refute it at one input. -/
def pathNoneWrong : ChangeSpec := { name := "pathNone", fn := fun _ => fun
  | [d1, d2, d3] => { results := [.lit (.bool false)], args := [d1, d2, d3] }
  | _ => none }
def PathNoneWrongFalsely : Prop := pathNoneRow.holds Tryz.pinned (OpenSpec.ofChange pathNoneWrong)

/-- 'ligaturelaw14.PathGrid': WHATEVER THE INPUT: true; the input reads as it did. -/
def pathGridSpec : ChangeSpec := { name := "pathGrid", fn := fun _ => fun
  | [d] => { results := [.lit (.bool true)], args := [d] }
  | _ => none }
def pathGridRow : OpenClaim := { program := "ytifddfbiehmmoaagreatdoor", sum := "4c02fa79c54f8c0a7b154fbbe60eed9bb742122ba4db1de051f0800147bb4932", func := "ligature/ligaturelaw14.PathGrid", spec := "pathGrid", inPlace := ["math.Float64bits", "math.Float64frombits", "internal/bytealg.IndexByteString", "internal/bytealg.IndexString", "slices.overlaps[ligature/api.Entry]"], unfollowed := true, recurses := true, named := ["unicode/utf8.first", "unicode/utf8.acceptRanges", "internal/bytealg.MaxLen"], apart := false, laid := [("unicode/utf8.acceptRanges", laid_unicode_utf8_acceptRanges), ("unicode/utf8.first", laid_unicode_utf8_first)] }
def PathGridSaid : Prop := pathGridRow.holds Tryz.pinned (OpenSpec.ofChange pathGridSpec)

/-- ITS FALSE NEIGHBOUR: 'it returns false'. Refute it at one input. -/
def pathGridWrong : ChangeSpec := { name := "pathGrid", fn := fun _ => fun
  | [d] => { results := [.lit (.bool false)], args := [d] }
  | _ => none }
def PathGridWrongFalsely : Prop := pathGridRow.holds Tryz.pinned (OpenSpec.ofChange pathGridWrong)

/-- 'ligaturelaw14.PathEdges': WHATEVER THE INPUT: true; the input reads as it did. -/
def pathEdgesSpec : ChangeSpec := { name := "pathEdges", fn := fun _ => fun
  | [d1, d2] => { results := [.lit (.bool true)], args := [d1, d2] }
  | _ => none }
def pathEdgesRow : OpenClaim := { program := "ytifddfbiehmmoaagreatdoor", sum := "4c02fa79c54f8c0a7b154fbbe60eed9bb742122ba4db1de051f0800147bb4932", func := "ligature/ligaturelaw14.PathEdges", spec := "pathEdges", inPlace := ["math.Float64frombits", "math.Float64bits", "internal/bytealg.IndexByteString", "internal/bytealg.IndexString", "slices.overlaps[ligature/api.Entry]"], unfollowed := true, recurses := true, named := ["unicode/utf8.first", "unicode/utf8.acceptRanges", "internal/bytealg.MaxLen"], apart := false, laid := [("unicode/utf8.acceptRanges", laid_unicode_utf8_acceptRanges), ("unicode/utf8.first", laid_unicode_utf8_first)] }
def PathEdgesSaid : Prop := pathEdgesRow.holds Tryz.pinned (OpenSpec.ofChange pathEdgesSpec)

/-- ITS FALSE NEIGHBOUR: 'it returns false'. Refute it at one input. -/
def pathEdgesWrong : ChangeSpec := { name := "pathEdges", fn := fun _ => fun
  | [d1, d2] => { results := [.lit (.bool false)], args := [d1, d2] }
  | _ => none }
def PathEdgesWrongFalsely : Prop := pathEdgesRow.holds Tryz.pinned (OpenSpec.ofChange pathEdgesWrong)

/-- 'ligaturelaw11.StoreStays': WHATEVER THE INPUT: true; the input reads as it did. -/
def storeStaysSpec : ChangeSpec := { name := "storeStays", fn := fun _ => fun
  | [d1, d2] => { results := [.lit (.bool true)], args := [d1, d2] }
  | _ => none }
def storeStaysRow : OpenClaim := { program := "ytifddfbiehmmoaagreatdoor", sum := "4c02fa79c54f8c0a7b154fbbe60eed9bb742122ba4db1de051f0800147bb4932", func := "ligature/ligaturelaw11.StoreStays", spec := "storeStays", inPlace := ["math.Float64frombits", "math.Float64bits", "internal/bytealg.IndexByteString", "internal/bytealg.IndexString", "slices.overlaps[ligature/api.Entry]"], unfollowed := true, recurses := true, named := ["unicode/utf8.first", "unicode/utf8.acceptRanges", "internal/bytealg.MaxLen"], apart := false, laid := [("unicode/utf8.acceptRanges", laid_unicode_utf8_acceptRanges), ("unicode/utf8.first", laid_unicode_utf8_first)] }
def StoreStaysSaid : Prop := storeStaysRow.holds Tryz.pinned (OpenSpec.ofChange storeStaysSpec)

/-- ITS FALSE NEIGHBOUR: 'it returns false'. Refute it at one input. -/
def storeStaysWrong : ChangeSpec := { name := "storeStays", fn := fun _ => fun
  | [d1, d2] => { results := [.lit (.bool false)], args := [d1, d2] }
  | _ => none }
def StoreStaysWrongFalsely : Prop := storeStaysRow.holds Tryz.pinned (OpenSpec.ofChange storeStaysWrong)

/- THE SECOND FORM. 'bulk': how many values and letters a reading holds, each counted each time it is reached (what is shared counts as often as it is met; a slice's spare places count too). A statement '..UptoSaid' is the law's where the arguments, and the package variables that the reading takes, are together of bulk at most 1048576: NARROWER than '..Said'. Prove '..Said' where nothing that the law and all that it calls make is longer than what came in: it says more and counts as full. Else prove '..UptoSaid'. A law counts once. -/
mutual
def uptoBulk {H : Type} : DataW H → Nat
  | .lit (.string bytes) => bytes.length + 1
  | .lit _ => 1
  | .nil => 1
  | .ptr d => uptoBulk d + 1
  | .slice elems spare => uptoBulkAll elems + uptoBulkAll spare + 1
  | .agg parts => uptoBulkAll parts + 1
  | .iface _ d => uptoBulk d + 1
  | .map entries => uptoBulkEntries entries + 1
  | .held _ => 1
def uptoBulkAll {H : Type} : List (DataW H) → Nat
  | [] => 0
  | d :: r => uptoBulk d + uptoBulkAll r
def uptoBulkEntries {H : Type} : List (Lit × DataW H) → Nat
  | [] => 0
  | x :: r => uptoBulkEntry x + uptoBulkEntries r
def uptoBulkEntry {H : Type} : Lit × DataW H → Nat
  | (.string bytes, d) => bytes.length + uptoBulk d + 1
  | (_, d) => uptoBulk d + 1
 end
def uptoSmall : (H : Type) → List (DataW H) → Bool := fun _ ds => decide (uptoBulkAll ds ≤ 1048576)
def OpenSpec.upto (s : _root_.Go.ChangeSpec) : _root_.Go.OpenSpec := { _root_.Go.OpenSpec.ofChange s with cond := some uptoSmall }

/-- 'ligaturelaw14.PathTurned', WHERE WHAT IT READS IS OF BULK AT MOST 1048576: true; the input reads as it did. -/
def pathTurnedUptoRow : OpenClaim := { program := "ytifddfbiehmmoaagreatdoor", sum := "4c02fa79c54f8c0a7b154fbbe60eed9bb742122ba4db1de051f0800147bb4932", func := "ligature/ligaturelaw14.PathTurned", spec := "pathTurned", inPlace := ["math.Float64bits", "math.Float64frombits", "internal/bytealg.IndexByteString", "internal/bytealg.IndexString", "slices.overlaps[ligature/api.Entry]"], unfollowed := true, recurses := true, named := ["unicode/utf8.first", "unicode/utf8.acceptRanges", "internal/bytealg.MaxLen"], apart := false, laid := [("unicode/utf8.acceptRanges", laid_unicode_utf8_acceptRanges), ("unicode/utf8.first", laid_unicode_utf8_first)], narrowed := true }
def PathTurnedUptoSaid : Prop := pathTurnedUptoRow.holds Tryz.pinned (OpenSpec.upto pathTurnedSpec)

/-- 'ligaturelaw14.PathTies', WHERE WHAT IT READS IS OF BULK AT MOST 1048576: true; the input reads as it did. -/
def pathTiesUptoRow : OpenClaim := { program := "ytifddfbiehmmoaagreatdoor", sum := "4c02fa79c54f8c0a7b154fbbe60eed9bb742122ba4db1de051f0800147bb4932", func := "ligature/ligaturelaw14.PathTies", spec := "pathTies", inPlace := ["math.Float64bits", "math.Float64frombits", "internal/bytealg.IndexByteString", "internal/bytealg.IndexString", "slices.overlaps[ligature/api.Entry]"], unfollowed := true, recurses := true, named := ["unicode/utf8.first", "unicode/utf8.acceptRanges", "internal/bytealg.MaxLen"], apart := false, laid := [("unicode/utf8.acceptRanges", laid_unicode_utf8_acceptRanges), ("unicode/utf8.first", laid_unicode_utf8_first)], narrowed := true }
def PathTiesUptoSaid : Prop := pathTiesUptoRow.holds Tryz.pinned (OpenSpec.upto pathTiesSpec)

/-- 'ligaturelaw14.PathNone', WHERE WHAT IT READS IS OF BULK AT MOST 1048576: true; the input reads as it did. -/
def pathNoneUptoRow : OpenClaim := { program := "ytifddfbiehmmoaagreatdoor", sum := "4c02fa79c54f8c0a7b154fbbe60eed9bb742122ba4db1de051f0800147bb4932", func := "ligature/ligaturelaw14.PathNone", spec := "pathNone", inPlace := ["math.Float64bits", "math.Float64frombits", "internal/bytealg.IndexByteString", "internal/bytealg.IndexString", "slices.overlaps[ligature/api.Entry]"], unfollowed := true, recurses := true, named := ["unicode/utf8.first", "unicode/utf8.acceptRanges", "internal/bytealg.MaxLen"], apart := false, laid := [("unicode/utf8.acceptRanges", laid_unicode_utf8_acceptRanges), ("unicode/utf8.first", laid_unicode_utf8_first)], narrowed := true }
def PathNoneUptoSaid : Prop := pathNoneUptoRow.holds Tryz.pinned (OpenSpec.upto pathNoneSpec)

/-- 'ligaturelaw14.PathGrid', WHERE WHAT IT READS IS OF BULK AT MOST 1048576: true; the input reads as it did. -/
def pathGridUptoRow : OpenClaim := { program := "ytifddfbiehmmoaagreatdoor", sum := "4c02fa79c54f8c0a7b154fbbe60eed9bb742122ba4db1de051f0800147bb4932", func := "ligature/ligaturelaw14.PathGrid", spec := "pathGrid", inPlace := ["math.Float64bits", "math.Float64frombits", "internal/bytealg.IndexByteString", "internal/bytealg.IndexString", "slices.overlaps[ligature/api.Entry]"], unfollowed := true, recurses := true, named := ["unicode/utf8.first", "unicode/utf8.acceptRanges", "internal/bytealg.MaxLen"], apart := false, laid := [("unicode/utf8.acceptRanges", laid_unicode_utf8_acceptRanges), ("unicode/utf8.first", laid_unicode_utf8_first)], narrowed := true }
def PathGridUptoSaid : Prop := pathGridUptoRow.holds Tryz.pinned (OpenSpec.upto pathGridSpec)

/-- 'ligaturelaw14.PathEdges', WHERE WHAT IT READS IS OF BULK AT MOST 1048576: true; the input reads as it did. -/
def pathEdgesUptoRow : OpenClaim := { program := "ytifddfbiehmmoaagreatdoor", sum := "4c02fa79c54f8c0a7b154fbbe60eed9bb742122ba4db1de051f0800147bb4932", func := "ligature/ligaturelaw14.PathEdges", spec := "pathEdges", inPlace := ["math.Float64frombits", "math.Float64bits", "internal/bytealg.IndexByteString", "internal/bytealg.IndexString", "slices.overlaps[ligature/api.Entry]"], unfollowed := true, recurses := true, named := ["unicode/utf8.first", "unicode/utf8.acceptRanges", "internal/bytealg.MaxLen"], apart := false, laid := [("unicode/utf8.acceptRanges", laid_unicode_utf8_acceptRanges), ("unicode/utf8.first", laid_unicode_utf8_first)], narrowed := true }
def PathEdgesUptoSaid : Prop := pathEdgesUptoRow.holds Tryz.pinned (OpenSpec.upto pathEdgesSpec)

/-- 'ligaturelaw11.StoreStays', WHERE WHAT IT READS IS OF BULK AT MOST 1048576: true; the input reads as it did. -/
def storeStaysUptoRow : OpenClaim := { program := "ytifddfbiehmmoaagreatdoor", sum := "4c02fa79c54f8c0a7b154fbbe60eed9bb742122ba4db1de051f0800147bb4932", func := "ligature/ligaturelaw11.StoreStays", spec := "storeStays", inPlace := ["math.Float64frombits", "math.Float64bits", "internal/bytealg.IndexByteString", "internal/bytealg.IndexString", "slices.overlaps[ligature/api.Entry]"], unfollowed := true, recurses := true, named := ["unicode/utf8.first", "unicode/utf8.acceptRanges", "internal/bytealg.MaxLen"], apart := false, laid := [("unicode/utf8.acceptRanges", laid_unicode_utf8_acceptRanges), ("unicode/utf8.first", laid_unicode_utf8_first)], narrowed := true }
def StoreStaysUptoSaid : Prop := storeStaysUptoRow.holds Tryz.pinned (OpenSpec.upto storeStaysSpec)

end Rows
end Go.Proofs.YtifddfbiehmmoaaGreatDoor
