/-
  NARROWER THAN 'FOR EVERY INPUT', by the rows' own cells (each row's printed sentence says how): LinTimes: laid · LinLegal: laid · LinRuns: laid · LinEnds: laid · LinSome: laid · LinFinds: laid.
  DERIVED. THE GIVEN ROWS OF THIS SEAT. 6 by the template 'for every input the law returns true; each argument reads behind the call as it read before'; 0 by the template 'total and deterministic' (their statements: YtkkflnmfghegnaaGreatDoorTotals.lean).
  GIVEN WITH THE SEED: the statements are not yours to turn. If you find one false, say at which input.
  Laid BY PROGRAM, IN A SANDBOX (cutbox-rows.mjs): the forced cells as the released guide's own fill.sh prints them over the translation 2f68578054c80573… (all of the seat's roots in one cut). By AI agents, Wed Nov 11 2026. No macro, syntax, notation, axiom, sorry.
-/
import Derived.Test.YtkkflnmfghegnaaGreatDoorChecked
import GoSem.PinnedTables
import GoSem.Claim
import GoSem.ClaimJoined
import GoSem.ClaimMapViews
import Derived.JoinedTies
import Derived.KernelRfl
namespace Go.Proofs.YtkkflnmfghegnaaGreatDoor
/- THE CELL 'sum', in the pinned program and in every row, IS THE sha256 OF THE DUMP (.gsa) THAT YtkkflnmfghegnaaGreatDoorProg.lean LOADS. Nothing in Lean hashes anything: it is a label: what it is worth is what the hold of that sum in a sandbox is worth. -/
noncomputable def Tryz.pinned : Pinned := { name := "ytkkflnmfghegnaagreatdoor", sum := "2f68578054c805731d0b86e39207f48c8052dd282fd05a5321835acda3d516e1", checked := Tryz.checked }
namespace Rows
def none {H : Type} : Left H := { results := [], args := [] }

/- WHAT THE LISTED PACKAGE-LEVEL VARIABLES READ AS WHEN THE CALL BEGINS. Each datum BY PROGRAM (the guide's laid-datum.mjs) off the statement by which the dump's own 'gosem.cut.vars' lays the variable. In a bare row this is a premise. The card (YtkkflnmfghegnaaGreatDoorCards.lean) ties it to the program's text. -/
def laid_unicode_utf8_acceptRanges {H : Type} : DataW H := .agg [.agg [.lit (.int .u8 128), .lit (.int .u8 191)], .agg [.lit (.int .u8 160), .lit (.int .u8 191)], .agg [.lit (.int .u8 128), .lit (.int .u8 159)], .agg [.lit (.int .u8 144), .lit (.int .u8 191)], .agg [.lit (.int .u8 128), .lit (.int .u8 143)], .agg [.lit (.int .u8 0), .lit (.int .u8 0)], .agg [.lit (.int .u8 0), .lit (.int .u8 0)], .agg [.lit (.int .u8 0), .lit (.int .u8 0)], .agg [.lit (.int .u8 0), .lit (.int .u8 0)], .agg [.lit (.int .u8 0), .lit (.int .u8 0)], .agg [.lit (.int .u8 0), .lit (.int .u8 0)], .agg [.lit (.int .u8 0), .lit (.int .u8 0)], .agg [.lit (.int .u8 0), .lit (.int .u8 0)], .agg [.lit (.int .u8 0), .lit (.int .u8 0)], .agg [.lit (.int .u8 0), .lit (.int .u8 0)], .agg [.lit (.int .u8 0), .lit (.int .u8 0)]]
def laid_aileron_modes_ways {H : Type} : DataW H := .agg [.agg [.lit (.int .i64 0), .lit (.int .i64 4432), .lit (.int .i64 0), .lit (.int .i64 0), .lit (.int .i64 0), .lit (.int .i64 0), .lit (.int .i64 0), .lit (.int .i64 0)], .agg [.lit (.int .i64 4112), .lit (.int .i64 0), .lit (.int .i64 4944), .lit (.int .i64 0), .lit (.int .i64 0), .lit (.int .i64 0), .lit (.int .i64 0), .lit (.int .i64 4096)], .agg [.lit (.int .i64 0), .lit (.int .i64 0), .lit (.int .i64 0), .lit (.int .i64 5184), .lit (.int .i64 0), .lit (.int .i64 0), .lit (.int .i64 4096), .lit (.int .i64 4096)], .agg [.lit (.int .i64 0), .lit (.int .i64 0), .lit (.int .i64 0), .lit (.int .i64 0), .lit (.int .i64 5568), .lit (.int .i64 5248), .lit (.int .i64 6144), .lit (.int .i64 4096)], .agg [.lit (.int .i64 0), .lit (.int .i64 0), .lit (.int .i64 0), .lit (.int .i64 5184), .lit (.int .i64 0), .lit (.int .i64 5248), .lit (.int .i64 6144), .lit (.int .i64 4096)], .agg [.lit (.int .i64 0), .lit (.int .i64 0), .lit (.int .i64 0), .lit (.int .i64 5568), .lit (.int .i64 0), .lit (.int .i64 0), .lit (.int .i64 6144), .lit (.int .i64 4096)], .agg [.lit (.int .i64 4112), .lit (.int .i64 0), .lit (.int .i64 0), .lit (.int .i64 5472), .lit (.int .i64 0), .lit (.int .i64 0), .lit (.int .i64 0), .lit (.int .i64 4096)], .agg [.lit (.int .i64 4112), .lit (.int .i64 0), .lit (.int .i64 0), .lit (.int .i64 6080), .lit (.int .i64 0), .lit (.int .i64 0), .lit (.int .i64 4096), .lit (.int .i64 0)]]
def laid_aileron_call_fields {H : Type} : DataW H := .agg [.lit (.int .i64 1), .lit (.int .i64 513), .lit (.int .i64 1), .lit (.int .i64 256), .lit (.int .i64 13), .lit (.int .i64 0), .lit (.int .i64 2), .lit (.int .i64 176), .lit (.int .i64 64), .lit (.int .i64 0)]
/-- One of Go's own tables, pinned by name: the form's constant. -/
def laid_unicode_utf8_first : DataW Unit := Go.Pinned.utf8First

/-- 'aileronlaw19.LinTimes': WHATEVER THE INPUT: true; the input reads as it did. -/
def linTimesSpec : ChangeSpec := { name := "linTimes", fn := fun _ => fun
  | [d] => { results := [.lit (.bool true)], args := [d] }
  | _ => none }
def linTimesRow : OpenClaim := { program := "ytkkflnmfghegnaagreatdoor", sum := "2f68578054c805731d0b86e39207f48c8052dd282fd05a5321835acda3d516e1", func := "aileron/aileronlaw19.LinTimes", spec := "linTimes", inPlace := ["internal/bytealg.IndexByteString", "internal/bytealg.IndexString", "maps.clone"], unfollowed := true, recurses := true, named := ["unicode/utf8.first", "unicode/utf8.acceptRanges", "aileron/call.fields", "aileron/modes.ways", "internal/bytealg.MaxLen"], plainKeys := false, apart := false, laid := [("unicode/utf8.acceptRanges", laid_unicode_utf8_acceptRanges), ("aileron/modes.ways", laid_aileron_modes_ways), ("aileron/call.fields", laid_aileron_call_fields), ("unicode/utf8.first", laid_unicode_utf8_first)] }
def LinTimesSaid : Prop := linTimesRow.holds Tryz.pinned (OpenSpec.ofChange linTimesSpec)

/-- ITS FALSE NEIGHBOUR: 'it returns false'. Refute it at one input. -/
def linTimesWrong : ChangeSpec := { name := "linTimes", fn := fun _ => fun
  | [d] => { results := [.lit (.bool false)], args := [d] }
  | _ => none }
def LinTimesWrongFalsely : Prop := linTimesRow.holds Tryz.pinned (OpenSpec.ofChange linTimesWrong)

/-- 'aileronlaw19.LinLegal': WHATEVER THE INPUT: true; the input reads as it did. -/
def linLegalSpec : ChangeSpec := { name := "linLegal", fn := fun _ => fun
  | [d1, d2, d3] => { results := [.lit (.bool true)], args := [d1, d2, d3] }
  | _ => none }
def linLegalRow : OpenClaim := { program := "ytkkflnmfghegnaagreatdoor", sum := "2f68578054c805731d0b86e39207f48c8052dd282fd05a5321835acda3d516e1", func := "aileron/aileronlaw19.LinLegal", spec := "linLegal", inPlace := ["internal/bytealg.IndexByteString", "internal/bytealg.IndexString", "maps.clone"], unfollowed := true, recurses := true, named := ["unicode/utf8.first", "unicode/utf8.acceptRanges", "aileron/call.fields", "aileron/modes.ways", "internal/bytealg.MaxLen"], plainKeys := false, apart := false, laid := [("unicode/utf8.acceptRanges", laid_unicode_utf8_acceptRanges), ("aileron/modes.ways", laid_aileron_modes_ways), ("aileron/call.fields", laid_aileron_call_fields), ("unicode/utf8.first", laid_unicode_utf8_first)] }
def LinLegalSaid : Prop := linLegalRow.holds Tryz.pinned (OpenSpec.ofChange linLegalSpec)

/-- ITS FALSE NEIGHBOUR: 'it returns false'. Refute it at one input. -/
def linLegalWrong : ChangeSpec := { name := "linLegal", fn := fun _ => fun
  | [d1, d2, d3] => { results := [.lit (.bool false)], args := [d1, d2, d3] }
  | _ => none }
def LinLegalWrongFalsely : Prop := linLegalRow.holds Tryz.pinned (OpenSpec.ofChange linLegalWrong)

/-- 'aileronlaw19.LinRuns': WHATEVER THE INPUT: true; the input reads as it did. -/
def linRunsSpec : ChangeSpec := { name := "linRuns", fn := fun _ => fun
  | [d1, d2] => { results := [.lit (.bool true)], args := [d1, d2] }
  | _ => none }
def linRunsRow : OpenClaim := { program := "ytkkflnmfghegnaagreatdoor", sum := "2f68578054c805731d0b86e39207f48c8052dd282fd05a5321835acda3d516e1", func := "aileron/aileronlaw19.LinRuns", spec := "linRuns", inPlace := ["internal/bytealg.IndexByteString", "internal/bytealg.IndexString", "maps.clone"], unfollowed := true, recurses := true, named := ["unicode/utf8.first", "unicode/utf8.acceptRanges", "aileron/call.fields", "aileron/modes.ways", "internal/bytealg.MaxLen"], plainKeys := false, apart := false, laid := [("unicode/utf8.acceptRanges", laid_unicode_utf8_acceptRanges), ("aileron/modes.ways", laid_aileron_modes_ways), ("aileron/call.fields", laid_aileron_call_fields), ("unicode/utf8.first", laid_unicode_utf8_first)] }
def LinRunsSaid : Prop := linRunsRow.holds Tryz.pinned (OpenSpec.ofChange linRunsSpec)

/-- ITS FALSE NEIGHBOUR: 'it returns false'. Refute it at one input. -/
def linRunsWrong : ChangeSpec := { name := "linRuns", fn := fun _ => fun
  | [d1, d2] => { results := [.lit (.bool false)], args := [d1, d2] }
  | _ => none }
def LinRunsWrongFalsely : Prop := linRunsRow.holds Tryz.pinned (OpenSpec.ofChange linRunsWrong)

/-- 'aileronlaw19.LinEnds': WHATEVER THE INPUT: true; the input reads as it did. -/
def linEndsSpec : ChangeSpec := { name := "linEnds", fn := fun _ => fun
  | [d1, d2, d3] => { results := [.lit (.bool true)], args := [d1, d2, d3] }
  | _ => none }
def linEndsRow : OpenClaim := { program := "ytkkflnmfghegnaagreatdoor", sum := "2f68578054c805731d0b86e39207f48c8052dd282fd05a5321835acda3d516e1", func := "aileron/aileronlaw19.LinEnds", spec := "linEnds", inPlace := ["internal/bytealg.IndexByteString", "internal/bytealg.IndexString", "maps.clone"], unfollowed := true, recurses := true, named := ["unicode/utf8.first", "unicode/utf8.acceptRanges", "aileron/call.fields", "aileron/modes.ways", "internal/bytealg.MaxLen"], plainKeys := false, apart := false, laid := [("unicode/utf8.acceptRanges", laid_unicode_utf8_acceptRanges), ("aileron/modes.ways", laid_aileron_modes_ways), ("aileron/call.fields", laid_aileron_call_fields), ("unicode/utf8.first", laid_unicode_utf8_first)] }
def LinEndsSaid : Prop := linEndsRow.holds Tryz.pinned (OpenSpec.ofChange linEndsSpec)

/-- ITS FALSE NEIGHBOUR: 'it returns false'. Refute it at one input. -/
def linEndsWrong : ChangeSpec := { name := "linEnds", fn := fun _ => fun
  | [d1, d2, d3] => { results := [.lit (.bool false)], args := [d1, d2, d3] }
  | _ => none }
def LinEndsWrongFalsely : Prop := linEndsRow.holds Tryz.pinned (OpenSpec.ofChange linEndsWrong)

/-- 'aileronlaw19.LinSome': WHATEVER THE INPUT: true; the input reads as it did. -/
def linSomeSpec : ChangeSpec := { name := "linSome", fn := fun _ => fun
  | [d1, d2] => { results := [.lit (.bool true)], args := [d1, d2] }
  | _ => none }
def linSomeRow : OpenClaim := { program := "ytkkflnmfghegnaagreatdoor", sum := "2f68578054c805731d0b86e39207f48c8052dd282fd05a5321835acda3d516e1", func := "aileron/aileronlaw19.LinSome", spec := "linSome", inPlace := ["internal/bytealg.IndexByteString", "internal/bytealg.IndexString", "maps.clone"], unfollowed := true, recurses := true, named := ["unicode/utf8.first", "unicode/utf8.acceptRanges", "aileron/call.fields", "aileron/modes.ways", "internal/bytealg.MaxLen"], plainKeys := false, apart := false, laid := [("unicode/utf8.acceptRanges", laid_unicode_utf8_acceptRanges), ("aileron/modes.ways", laid_aileron_modes_ways), ("aileron/call.fields", laid_aileron_call_fields), ("unicode/utf8.first", laid_unicode_utf8_first)] }
def LinSomeSaid : Prop := linSomeRow.holds Tryz.pinned (OpenSpec.ofChange linSomeSpec)

/-- ITS FALSE NEIGHBOUR: 'it returns false'. Refute it at one input. -/
def linSomeWrong : ChangeSpec := { name := "linSome", fn := fun _ => fun
  | [d1, d2] => { results := [.lit (.bool false)], args := [d1, d2] }
  | _ => none }
def LinSomeWrongFalsely : Prop := linSomeRow.holds Tryz.pinned (OpenSpec.ofChange linSomeWrong)

/-- 'aileronlaw19.LinFinds': WHATEVER THE INPUT: true; the input reads as it did. -/
def linFindsSpec : ChangeSpec := { name := "linFinds", fn := fun _ => fun
  | [d1, d2] => { results := [.lit (.bool true)], args := [d1, d2] }
  | _ => none }
def linFindsRow : OpenClaim := { program := "ytkkflnmfghegnaagreatdoor", sum := "2f68578054c805731d0b86e39207f48c8052dd282fd05a5321835acda3d516e1", func := "aileron/aileronlaw19.LinFinds", spec := "linFinds", inPlace := ["internal/bytealg.IndexByteString", "internal/bytealg.IndexString", "maps.clone"], unfollowed := true, recurses := true, named := ["unicode/utf8.first", "unicode/utf8.acceptRanges", "aileron/call.fields", "aileron/modes.ways", "internal/bytealg.MaxLen"], plainKeys := false, apart := false, laid := [("unicode/utf8.acceptRanges", laid_unicode_utf8_acceptRanges), ("aileron/modes.ways", laid_aileron_modes_ways), ("aileron/call.fields", laid_aileron_call_fields), ("unicode/utf8.first", laid_unicode_utf8_first)] }
def LinFindsSaid : Prop := linFindsRow.holds Tryz.pinned (OpenSpec.ofChange linFindsSpec)

/-- ITS FALSE NEIGHBOUR: 'it returns false'. Refute it at one input. -/
def linFindsWrong : ChangeSpec := { name := "linFinds", fn := fun _ => fun
  | [d1, d2] => { results := [.lit (.bool false)], args := [d1, d2] }
  | _ => none }
def LinFindsWrongFalsely : Prop := linFindsRow.holds Tryz.pinned (OpenSpec.ofChange linFindsWrong)

/- THE SECOND FORM. 'bulk': how many values and letters a reading holds, each counted each time it is reached (what is shared counts as often as it is met; a slice's spare places count too). A statement '..UptoSaid' is the law's where the arguments, and the package variables that the reading takes, are together of bulk at most 1048576: NARROWER than '..Said'. Prove '..Said' where nothing that the law and all that it calls make is longer than what came in: it says more and counts as full. Else prove '..UptoSaid'. A law counts once. -/
mutual
def uptoBulk {H : Type} : DataW H → Nat
  | .lit (.string bytes) => bytes.length + 1
  | .lit _ => 1
  | .nil => 1
  | .ptr d => uptoBulk d + 1
  | .slice elems spare => uptoBulkAll elems + uptoBulkAll spare + 1
  | .agg parts => uptoBulkAll parts + 1
  | .iface _ d => uptoBulk d + 1
  | .map entries => uptoBulkEntries entries + 1
  | .held _ => 1
def uptoBulkAll {H : Type} : List (DataW H) → Nat
  | [] => 0
  | d :: r => uptoBulk d + uptoBulkAll r
def uptoBulkEntries {H : Type} : List (Lit × DataW H) → Nat
  | [] => 0
  | x :: r => uptoBulkEntry x + uptoBulkEntries r
def uptoBulkEntry {H : Type} : Lit × DataW H → Nat
  | (.string bytes, d) => bytes.length + uptoBulk d + 1
  | (_, d) => uptoBulk d + 1
 end
def uptoSmall : (H : Type) → List (DataW H) → Bool := fun _ ds => decide (uptoBulkAll ds ≤ 1048576)
def OpenSpec.upto (s : _root_.Go.ChangeSpec) : _root_.Go.OpenSpec := { _root_.Go.OpenSpec.ofChange s with cond := some uptoSmall }

/-- 'aileronlaw19.LinTimes', WHERE WHAT IT READS IS OF BULK AT MOST 1048576: true; the input reads as it did. -/
def linTimesUptoRow : OpenClaim := { program := "ytkkflnmfghegnaagreatdoor", sum := "2f68578054c805731d0b86e39207f48c8052dd282fd05a5321835acda3d516e1", func := "aileron/aileronlaw19.LinTimes", spec := "linTimes", inPlace := ["internal/bytealg.IndexByteString", "internal/bytealg.IndexString", "maps.clone"], unfollowed := true, recurses := true, named := ["unicode/utf8.first", "unicode/utf8.acceptRanges", "aileron/call.fields", "aileron/modes.ways", "internal/bytealg.MaxLen"], plainKeys := false, apart := false, laid := [("unicode/utf8.acceptRanges", laid_unicode_utf8_acceptRanges), ("aileron/modes.ways", laid_aileron_modes_ways), ("aileron/call.fields", laid_aileron_call_fields), ("unicode/utf8.first", laid_unicode_utf8_first)], narrowed := true }
def LinTimesUptoSaid : Prop := linTimesUptoRow.holds Tryz.pinned (OpenSpec.upto linTimesSpec)

/-- 'aileronlaw19.LinLegal', WHERE WHAT IT READS IS OF BULK AT MOST 1048576: true; the input reads as it did. -/
def linLegalUptoRow : OpenClaim := { program := "ytkkflnmfghegnaagreatdoor", sum := "2f68578054c805731d0b86e39207f48c8052dd282fd05a5321835acda3d516e1", func := "aileron/aileronlaw19.LinLegal", spec := "linLegal", inPlace := ["internal/bytealg.IndexByteString", "internal/bytealg.IndexString", "maps.clone"], unfollowed := true, recurses := true, named := ["unicode/utf8.first", "unicode/utf8.acceptRanges", "aileron/call.fields", "aileron/modes.ways", "internal/bytealg.MaxLen"], plainKeys := false, apart := false, laid := [("unicode/utf8.acceptRanges", laid_unicode_utf8_acceptRanges), ("aileron/modes.ways", laid_aileron_modes_ways), ("aileron/call.fields", laid_aileron_call_fields), ("unicode/utf8.first", laid_unicode_utf8_first)], narrowed := true }
def LinLegalUptoSaid : Prop := linLegalUptoRow.holds Tryz.pinned (OpenSpec.upto linLegalSpec)

/-- 'aileronlaw19.LinRuns', WHERE WHAT IT READS IS OF BULK AT MOST 1048576: true; the input reads as it did. -/
def linRunsUptoRow : OpenClaim := { program := "ytkkflnmfghegnaagreatdoor", sum := "2f68578054c805731d0b86e39207f48c8052dd282fd05a5321835acda3d516e1", func := "aileron/aileronlaw19.LinRuns", spec := "linRuns", inPlace := ["internal/bytealg.IndexByteString", "internal/bytealg.IndexString", "maps.clone"], unfollowed := true, recurses := true, named := ["unicode/utf8.first", "unicode/utf8.acceptRanges", "aileron/call.fields", "aileron/modes.ways", "internal/bytealg.MaxLen"], plainKeys := false, apart := false, laid := [("unicode/utf8.acceptRanges", laid_unicode_utf8_acceptRanges), ("aileron/modes.ways", laid_aileron_modes_ways), ("aileron/call.fields", laid_aileron_call_fields), ("unicode/utf8.first", laid_unicode_utf8_first)], narrowed := true }
def LinRunsUptoSaid : Prop := linRunsUptoRow.holds Tryz.pinned (OpenSpec.upto linRunsSpec)

/-- 'aileronlaw19.LinEnds', WHERE WHAT IT READS IS OF BULK AT MOST 1048576: true; the input reads as it did. -/
def linEndsUptoRow : OpenClaim := { program := "ytkkflnmfghegnaagreatdoor", sum := "2f68578054c805731d0b86e39207f48c8052dd282fd05a5321835acda3d516e1", func := "aileron/aileronlaw19.LinEnds", spec := "linEnds", inPlace := ["internal/bytealg.IndexByteString", "internal/bytealg.IndexString", "maps.clone"], unfollowed := true, recurses := true, named := ["unicode/utf8.first", "unicode/utf8.acceptRanges", "aileron/call.fields", "aileron/modes.ways", "internal/bytealg.MaxLen"], plainKeys := false, apart := false, laid := [("unicode/utf8.acceptRanges", laid_unicode_utf8_acceptRanges), ("aileron/modes.ways", laid_aileron_modes_ways), ("aileron/call.fields", laid_aileron_call_fields), ("unicode/utf8.first", laid_unicode_utf8_first)], narrowed := true }
def LinEndsUptoSaid : Prop := linEndsUptoRow.holds Tryz.pinned (OpenSpec.upto linEndsSpec)

/-- 'aileronlaw19.LinSome', WHERE WHAT IT READS IS OF BULK AT MOST 1048576: true; the input reads as it did. -/
def linSomeUptoRow : OpenClaim := { program := "ytkkflnmfghegnaagreatdoor", sum := "2f68578054c805731d0b86e39207f48c8052dd282fd05a5321835acda3d516e1", func := "aileron/aileronlaw19.LinSome", spec := "linSome", inPlace := ["internal/bytealg.IndexByteString", "internal/bytealg.IndexString", "maps.clone"], unfollowed := true, recurses := true, named := ["unicode/utf8.first", "unicode/utf8.acceptRanges", "aileron/call.fields", "aileron/modes.ways", "internal/bytealg.MaxLen"], plainKeys := false, apart := false, laid := [("unicode/utf8.acceptRanges", laid_unicode_utf8_acceptRanges), ("aileron/modes.ways", laid_aileron_modes_ways), ("aileron/call.fields", laid_aileron_call_fields), ("unicode/utf8.first", laid_unicode_utf8_first)], narrowed := true }
def LinSomeUptoSaid : Prop := linSomeUptoRow.holds Tryz.pinned (OpenSpec.upto linSomeSpec)

/-- 'aileronlaw19.LinFinds', WHERE WHAT IT READS IS OF BULK AT MOST 1048576: true; the input reads as it did. -/
def linFindsUptoRow : OpenClaim := { program := "ytkkflnmfghegnaagreatdoor", sum := "2f68578054c805731d0b86e39207f48c8052dd282fd05a5321835acda3d516e1", func := "aileron/aileronlaw19.LinFinds", spec := "linFinds", inPlace := ["internal/bytealg.IndexByteString", "internal/bytealg.IndexString", "maps.clone"], unfollowed := true, recurses := true, named := ["unicode/utf8.first", "unicode/utf8.acceptRanges", "aileron/call.fields", "aileron/modes.ways", "internal/bytealg.MaxLen"], plainKeys := false, apart := false, laid := [("unicode/utf8.acceptRanges", laid_unicode_utf8_acceptRanges), ("aileron/modes.ways", laid_aileron_modes_ways), ("aileron/call.fields", laid_aileron_call_fields), ("unicode/utf8.first", laid_unicode_utf8_first)], narrowed := true }
def LinFindsUptoSaid : Prop := linFindsUptoRow.holds Tryz.pinned (OpenSpec.upto linFindsSpec)

end Rows
end Go.Proofs.YtkkflnmfghegnaaGreatDoor
