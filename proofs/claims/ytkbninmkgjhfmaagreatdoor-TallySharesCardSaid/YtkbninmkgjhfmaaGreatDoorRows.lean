/-
  NARROWER THAN 'FOR EVERY INPUT', by the rows' own cells (each row's printed sentence says how): TallyMerges: laid · TallyReplies: laid · TallyShares: laid.
  DERIVED. THE GIVEN ROWS OF THIS SEAT. 3 by the template 'for every input the law returns true; each argument reads behind the call as it read before'; 0 by the template 'total and deterministic' (their statements: YtkbninmkgjhfmaaGreatDoorTotals.lean).
  GIVEN WITH THE SEED: the statements are not yours to turn. If you find one false, say at which input.
  Laid BY PROGRAM, IN A SANDBOX (cutbox-rows.mjs): the forced cells as the released guide's own fill.sh prints them over the translation cc1aaf65d642d5b5… (all of the seat's roots in one cut). By AI agents, Wed Nov 11 2026. No macro, syntax, notation, axiom, sorry.
-/
import Derived.Test.YtkbninmkgjhfmaaGreatDoorChecked
import GoSem.PinnedTables
import GoSem.Claim
import GoSem.ClaimJoined
import GoSem.ClaimMapViews
import Derived.JoinedTies
import Derived.KernelRfl
namespace Go.Proofs.YtkbninmkgjhfmaaGreatDoor
/- THE CELL 'sum', in the pinned program and in every row, IS THE sha256 OF THE DUMP (.gsa) THAT YtkbninmkgjhfmaaGreatDoorProg.lean LOADS. Nothing in Lean hashes anything: it is a label: what it is worth is what the hold of that sum in a sandbox is worth. -/
noncomputable def Tryz.pinned : Pinned := { name := "ytkbninmkgjhfmaagreatdoor", sum := "cc1aaf65d642d5b58b47bf3a6bd6d2ffdc59430d77e93b3e2f4443952b75f14b", checked := Tryz.checked }
namespace Rows
def none {H : Type} : Left H := { results := [], args := [] }

/- WHAT THE LISTED PACKAGE-LEVEL VARIABLES READ AS WHEN THE CALL BEGINS. Each datum BY PROGRAM (the guide's laid-datum.mjs) off the statement by which the dump's own 'gosem.cut.vars' lays the variable. In a bare row this is a premise. The card (YtkbninmkgjhfmaaGreatDoorCards.lean) ties it to the program's text. -/
def laid_unicode_utf8_acceptRanges {H : Type} : DataW H := .agg [.agg [.lit (.int .u8 128), .lit (.int .u8 191)], .agg [.lit (.int .u8 160), .lit (.int .u8 191)], .agg [.lit (.int .u8 128), .lit (.int .u8 159)], .agg [.lit (.int .u8 144), .lit (.int .u8 191)], .agg [.lit (.int .u8 128), .lit (.int .u8 143)], .agg [.lit (.int .u8 0), .lit (.int .u8 0)], .agg [.lit (.int .u8 0), .lit (.int .u8 0)], .agg [.lit (.int .u8 0), .lit (.int .u8 0)], .agg [.lit (.int .u8 0), .lit (.int .u8 0)], .agg [.lit (.int .u8 0), .lit (.int .u8 0)], .agg [.lit (.int .u8 0), .lit (.int .u8 0)], .agg [.lit (.int .u8 0), .lit (.int .u8 0)], .agg [.lit (.int .u8 0), .lit (.int .u8 0)], .agg [.lit (.int .u8 0), .lit (.int .u8 0)], .agg [.lit (.int .u8 0), .lit (.int .u8 0)], .agg [.lit (.int .u8 0), .lit (.int .u8 0)]]
def laid_taproot_command_forms {H : Type} : DataW H := .agg [.lit (.string []), .lit (.string [113]), .lit (.string [110]), .lit (.string [98]), .lit (.string [98]), .lit (.string [120, 107, 121, 109]), .lit (.string [110, 99, 109]), .lit (.string [110, 105, 116]), .lit (.string [110, 105, 116, 100]), .lit (.string [110, 105, 116, 109]), .lit (.string [110]), .lit (.string [109]), .lit (.string [110]), .lit (.string [110, 105, 99])]
/-- One of Go's own tables, pinned by name: the form's constant. -/
def laid_unicode_utf8_first : DataW Unit := Go.Pinned.utf8First

/-- 'taprootlaw36.TallyMerges': WHATEVER THE INPUT: true; the input reads as it did. -/
def tallyMergesSpec : ChangeSpec := { name := "tallyMerges", fn := fun _ => fun
  | [d1, d2, d3] => { results := [.lit (.bool true)], args := [d1, d2, d3] }
  | _ => none }
def tallyMergesRow : OpenClaim := { program := "ytkbninmkgjhfmaagreatdoor", sum := "cc1aaf65d642d5b58b47bf3a6bd6d2ffdc59430d77e93b3e2f4443952b75f14b", func := "taproot/taprootlaw36.TallyMerges", spec := "tallyMerges", inPlace := ["internal/bytealg.CountString", "internal/bytealg.IndexByteString", "internal/bytealg.IndexString", "internal/abi.NoEscape", "internal/bytealg.MakeNoZero", "slices.overlaps[string]", "slices.overlaps[taproot/lease.entry[taproot/lease.Key]]"], unfollowed := true, recurses := true, named := ["internal/bytealg.MaxLen", "unicode/utf8.first", "unicode/utf8.acceptRanges", "taproot/command.forms"], apart := false, laid := [("unicode/utf8.acceptRanges", laid_unicode_utf8_acceptRanges), ("taproot/command.forms", laid_taproot_command_forms), ("unicode/utf8.first", laid_unicode_utf8_first)] }
def TallyMergesSaid : Prop := tallyMergesRow.holds Tryz.pinned (OpenSpec.ofChange tallyMergesSpec)

/-- ITS FALSE NEIGHBOUR: 'it returns false'. Refute it at one input. -/
def tallyMergesWrong : ChangeSpec := { name := "tallyMerges", fn := fun _ => fun
  | [d1, d2, d3] => { results := [.lit (.bool false)], args := [d1, d2, d3] }
  | _ => none }
def TallyMergesWrongFalsely : Prop := tallyMergesRow.holds Tryz.pinned (OpenSpec.ofChange tallyMergesWrong)

/-- 'taprootlaw36.TallyReplies': WHATEVER THE INPUT: true; the input reads as it did. -/
def tallyRepliesSpec : ChangeSpec := { name := "tallyReplies", fn := fun _ => fun
  | [d] => { results := [.lit (.bool true)], args := [d] }
  | _ => none }
def tallyRepliesRow : OpenClaim := { program := "ytkbninmkgjhfmaagreatdoor", sum := "cc1aaf65d642d5b58b47bf3a6bd6d2ffdc59430d77e93b3e2f4443952b75f14b", func := "taproot/taprootlaw36.TallyReplies", spec := "tallyReplies", inPlace := ["internal/bytealg.CountString", "internal/bytealg.IndexByteString", "internal/bytealg.IndexString", "internal/abi.NoEscape", "internal/bytealg.MakeNoZero", "slices.overlaps[string]", "slices.overlaps[taproot/lease.entry[taproot/lease.Key]]"], unfollowed := true, recurses := true, named := ["internal/bytealg.MaxLen", "unicode/utf8.first", "unicode/utf8.acceptRanges", "taproot/command.forms"], apart := false, laid := [("unicode/utf8.acceptRanges", laid_unicode_utf8_acceptRanges), ("taproot/command.forms", laid_taproot_command_forms), ("unicode/utf8.first", laid_unicode_utf8_first)] }
def TallyRepliesSaid : Prop := tallyRepliesRow.holds Tryz.pinned (OpenSpec.ofChange tallyRepliesSpec)

/-- ITS FALSE NEIGHBOUR: 'it returns false'. Refute it at one input. -/
def tallyRepliesWrong : ChangeSpec := { name := "tallyReplies", fn := fun _ => fun
  | [d] => { results := [.lit (.bool false)], args := [d] }
  | _ => none }
def TallyRepliesWrongFalsely : Prop := tallyRepliesRow.holds Tryz.pinned (OpenSpec.ofChange tallyRepliesWrong)

/-- 'taprootlaw36.TallyShares': WHATEVER THE INPUT: true; the input reads as it did. -/
def tallySharesSpec : ChangeSpec := { name := "tallyShares", fn := fun _ => fun
  | [d1, d2, d3] => { results := [.lit (.bool true)], args := [d1, d2, d3] }
  | _ => none }
def tallySharesRow : OpenClaim := { program := "ytkbninmkgjhfmaagreatdoor", sum := "cc1aaf65d642d5b58b47bf3a6bd6d2ffdc59430d77e93b3e2f4443952b75f14b", func := "taproot/taprootlaw36.TallyShares", spec := "tallyShares", inPlace := ["internal/bytealg.CountString", "internal/bytealg.IndexByteString", "internal/bytealg.IndexString", "internal/abi.NoEscape", "internal/bytealg.MakeNoZero", "slices.overlaps[string]", "slices.overlaps[taproot/lease.entry[taproot/lease.Key]]"], unfollowed := true, recurses := true, named := ["internal/bytealg.MaxLen", "unicode/utf8.first", "unicode/utf8.acceptRanges", "taproot/command.forms", "math/bits.divideError", "math/bits.overflowError"], apart := false, laid := [("unicode/utf8.acceptRanges", laid_unicode_utf8_acceptRanges), ("taproot/command.forms", laid_taproot_command_forms), ("unicode/utf8.first", laid_unicode_utf8_first)] }
def TallySharesSaid : Prop := tallySharesRow.holds Tryz.pinned (OpenSpec.ofChange tallySharesSpec)

/-- ITS FALSE NEIGHBOUR: 'it returns false'. Refute it at one input. -/
def tallySharesWrong : ChangeSpec := { name := "tallyShares", fn := fun _ => fun
  | [d1, d2, d3] => { results := [.lit (.bool false)], args := [d1, d2, d3] }
  | _ => none }
def TallySharesWrongFalsely : Prop := tallySharesRow.holds Tryz.pinned (OpenSpec.ofChange tallySharesWrong)

/- THE SECOND FORM. 'bulk': how many values and letters a reading holds, each counted each time it is reached (what is shared counts as often as it is met; a slice's spare places count too). A statement '..UptoSaid' is the law's where the arguments, and the package variables that the reading takes, are together of bulk at most 1048576: NARROWER than '..Said'. Prove '..Said' where nothing that the law and all that it calls make is longer than what came in: it says more and counts as full. Else prove '..UptoSaid'. A law counts once. -/
mutual
def uptoBulk {H : Type} : DataW H → Nat
  | .lit (.string bytes) => bytes.length + 1
  | .lit _ => 1
  | .nil => 1
  | .ptr d => uptoBulk d + 1
  | .slice elems spare => uptoBulkAll elems + uptoBulkAll spare + 1
  | .agg parts => uptoBulkAll parts + 1
  | .iface _ d => uptoBulk d + 1
  | .map entries => uptoBulkEntries entries + 1
  | .held _ => 1
def uptoBulkAll {H : Type} : List (DataW H) → Nat
  | [] => 0
  | d :: r => uptoBulk d + uptoBulkAll r
def uptoBulkEntries {H : Type} : List (Lit × DataW H) → Nat
  | [] => 0
  | x :: r => uptoBulkEntry x + uptoBulkEntries r
def uptoBulkEntry {H : Type} : Lit × DataW H → Nat
  | (.string bytes, d) => bytes.length + uptoBulk d + 1
  | (_, d) => uptoBulk d + 1
 end
def uptoSmall : (H : Type) → List (DataW H) → Bool := fun _ ds => decide (uptoBulkAll ds ≤ 1048576)
def OpenSpec.upto (s : _root_.Go.ChangeSpec) : _root_.Go.OpenSpec := { _root_.Go.OpenSpec.ofChange s with cond := some uptoSmall }

/-- 'taprootlaw36.TallyMerges', WHERE WHAT IT READS IS OF BULK AT MOST 1048576: true; the input reads as it did. -/
def tallyMergesUptoRow : OpenClaim := { program := "ytkbninmkgjhfmaagreatdoor", sum := "cc1aaf65d642d5b58b47bf3a6bd6d2ffdc59430d77e93b3e2f4443952b75f14b", func := "taproot/taprootlaw36.TallyMerges", spec := "tallyMerges", inPlace := ["internal/bytealg.CountString", "internal/bytealg.IndexByteString", "internal/bytealg.IndexString", "internal/abi.NoEscape", "internal/bytealg.MakeNoZero", "slices.overlaps[string]", "slices.overlaps[taproot/lease.entry[taproot/lease.Key]]"], unfollowed := true, recurses := true, named := ["internal/bytealg.MaxLen", "unicode/utf8.first", "unicode/utf8.acceptRanges", "taproot/command.forms"], apart := false, laid := [("unicode/utf8.acceptRanges", laid_unicode_utf8_acceptRanges), ("taproot/command.forms", laid_taproot_command_forms), ("unicode/utf8.first", laid_unicode_utf8_first)], narrowed := true }
def TallyMergesUptoSaid : Prop := tallyMergesUptoRow.holds Tryz.pinned (OpenSpec.upto tallyMergesSpec)

/-- 'taprootlaw36.TallyReplies', WHERE WHAT IT READS IS OF BULK AT MOST 1048576: true; the input reads as it did. -/
def tallyRepliesUptoRow : OpenClaim := { program := "ytkbninmkgjhfmaagreatdoor", sum := "cc1aaf65d642d5b58b47bf3a6bd6d2ffdc59430d77e93b3e2f4443952b75f14b", func := "taproot/taprootlaw36.TallyReplies", spec := "tallyReplies", inPlace := ["internal/bytealg.CountString", "internal/bytealg.IndexByteString", "internal/bytealg.IndexString", "internal/abi.NoEscape", "internal/bytealg.MakeNoZero", "slices.overlaps[string]", "slices.overlaps[taproot/lease.entry[taproot/lease.Key]]"], unfollowed := true, recurses := true, named := ["internal/bytealg.MaxLen", "unicode/utf8.first", "unicode/utf8.acceptRanges", "taproot/command.forms"], apart := false, laid := [("unicode/utf8.acceptRanges", laid_unicode_utf8_acceptRanges), ("taproot/command.forms", laid_taproot_command_forms), ("unicode/utf8.first", laid_unicode_utf8_first)], narrowed := true }
def TallyRepliesUptoSaid : Prop := tallyRepliesUptoRow.holds Tryz.pinned (OpenSpec.upto tallyRepliesSpec)

/-- 'taprootlaw36.TallyShares', WHERE WHAT IT READS IS OF BULK AT MOST 1048576: true; the input reads as it did. -/
def tallySharesUptoRow : OpenClaim := { program := "ytkbninmkgjhfmaagreatdoor", sum := "cc1aaf65d642d5b58b47bf3a6bd6d2ffdc59430d77e93b3e2f4443952b75f14b", func := "taproot/taprootlaw36.TallyShares", spec := "tallyShares", inPlace := ["internal/bytealg.CountString", "internal/bytealg.IndexByteString", "internal/bytealg.IndexString", "internal/abi.NoEscape", "internal/bytealg.MakeNoZero", "slices.overlaps[string]", "slices.overlaps[taproot/lease.entry[taproot/lease.Key]]"], unfollowed := true, recurses := true, named := ["internal/bytealg.MaxLen", "unicode/utf8.first", "unicode/utf8.acceptRanges", "taproot/command.forms", "math/bits.divideError", "math/bits.overflowError"], apart := false, laid := [("unicode/utf8.acceptRanges", laid_unicode_utf8_acceptRanges), ("taproot/command.forms", laid_taproot_command_forms), ("unicode/utf8.first", laid_unicode_utf8_first)], narrowed := true }
def TallySharesUptoSaid : Prop := tallySharesUptoRow.holds Tryz.pinned (OpenSpec.upto tallySharesSpec)

end Rows
end Go.Proofs.YtkbninmkgjhfmaaGreatDoor
