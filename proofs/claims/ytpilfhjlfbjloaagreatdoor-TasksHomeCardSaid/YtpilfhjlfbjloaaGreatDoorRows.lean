/-
  NARROWER THAN 'FOR EVERY INPUT', by the rows' own cells (each row's printed sentence says how): TasksHome: laid · TasksBoard: laid.
  DERIVED. THE GIVEN ROWS OF THIS SEAT. 2 by the template 'for every input the law returns true; each argument reads behind the call as it read before'; 0 by the template 'total and deterministic' (their statements: YtpilfhjlfbjloaaGreatDoorTotals.lean).
  GIVEN WITH THE SEED: the statements are not yours to turn. If you find one false, say at which input.
  Laid BY PROGRAM, IN A SANDBOX (cutbox-rows.mjs): the forced cells as the released guide's own fill.sh prints them over the translation a034cd55e005dfeb… (all of the seat's roots in one cut). By AI agents, Wed Nov 11 2026. No macro, syntax, notation, axiom, sorry.
-/
import Derived.Test.YtpilfhjlfbjloaaGreatDoorChecked
import GoSem.PinnedTables
import GoSem.Claim
import GoSem.ClaimJoined
import GoSem.ClaimMapViews
import Derived.JoinedTies
import Derived.KernelRfl
namespace Go.Proofs.YtpilfhjlfbjloaaGreatDoor
/- THE CELL 'sum', in the pinned program and in every row, IS THE sha256 OF THE DUMP (.gsa) THAT YtpilfhjlfbjloaaGreatDoorProg.lean LOADS. Nothing in Lean hashes anything: it is a label: what it is worth is what the hold of that sum in a sandbox is worth. -/
noncomputable def Tryz.pinned : Pinned := { name := "ytpilfhjlfbjloaagreatdoor", sum := "a034cd55e005dfebc9ceccdfe4089194fa921256c493327c19326fccab4ddc31", checked := Tryz.checked }
namespace Rows
def none {H : Type} : Left H := { results := [], args := [] }

/- WHAT THE LISTED PACKAGE-LEVEL VARIABLES READ AS WHEN THE CALL BEGINS. Each datum BY PROGRAM (the guide's laid-datum.mjs) off the statement by which the dump's own 'gosem.cut.vars' lays the variable. In a bare row this is a premise. The card (YtpilfhjlfbjloaaGreatDoorCards.lean) ties it to the program's text. -/
def laid_unicode_utf8_acceptRanges {H : Type} : DataW H := .agg [.agg [.lit (.int .u8 128), .lit (.int .u8 191)], .agg [.lit (.int .u8 160), .lit (.int .u8 191)], .agg [.lit (.int .u8 128), .lit (.int .u8 159)], .agg [.lit (.int .u8 144), .lit (.int .u8 191)], .agg [.lit (.int .u8 128), .lit (.int .u8 143)], .agg [.lit (.int .u8 0), .lit (.int .u8 0)], .agg [.lit (.int .u8 0), .lit (.int .u8 0)], .agg [.lit (.int .u8 0), .lit (.int .u8 0)], .agg [.lit (.int .u8 0), .lit (.int .u8 0)], .agg [.lit (.int .u8 0), .lit (.int .u8 0)], .agg [.lit (.int .u8 0), .lit (.int .u8 0)], .agg [.lit (.int .u8 0), .lit (.int .u8 0)], .agg [.lit (.int .u8 0), .lit (.int .u8 0)], .agg [.lit (.int .u8 0), .lit (.int .u8 0)], .agg [.lit (.int .u8 0), .lit (.int .u8 0)], .agg [.lit (.int .u8 0), .lit (.int .u8 0)]]
def laid_aileron_modes_ways {H : Type} : DataW H := .agg [.agg [.lit (.int .i64 0), .lit (.int .i64 4432), .lit (.int .i64 0), .lit (.int .i64 0), .lit (.int .i64 0), .lit (.int .i64 0), .lit (.int .i64 0), .lit (.int .i64 0)], .agg [.lit (.int .i64 4112), .lit (.int .i64 0), .lit (.int .i64 4944), .lit (.int .i64 0), .lit (.int .i64 0), .lit (.int .i64 0), .lit (.int .i64 0), .lit (.int .i64 4096)], .agg [.lit (.int .i64 0), .lit (.int .i64 0), .lit (.int .i64 0), .lit (.int .i64 5184), .lit (.int .i64 0), .lit (.int .i64 0), .lit (.int .i64 4096), .lit (.int .i64 4096)], .agg [.lit (.int .i64 0), .lit (.int .i64 0), .lit (.int .i64 0), .lit (.int .i64 0), .lit (.int .i64 5568), .lit (.int .i64 5248), .lit (.int .i64 6144), .lit (.int .i64 4096)], .agg [.lit (.int .i64 0), .lit (.int .i64 0), .lit (.int .i64 0), .lit (.int .i64 5184), .lit (.int .i64 0), .lit (.int .i64 5248), .lit (.int .i64 6144), .lit (.int .i64 4096)], .agg [.lit (.int .i64 0), .lit (.int .i64 0), .lit (.int .i64 0), .lit (.int .i64 5568), .lit (.int .i64 0), .lit (.int .i64 0), .lit (.int .i64 6144), .lit (.int .i64 4096)], .agg [.lit (.int .i64 4112), .lit (.int .i64 0), .lit (.int .i64 0), .lit (.int .i64 5472), .lit (.int .i64 0), .lit (.int .i64 0), .lit (.int .i64 0), .lit (.int .i64 4096)], .agg [.lit (.int .i64 4112), .lit (.int .i64 0), .lit (.int .i64 0), .lit (.int .i64 6080), .lit (.int .i64 0), .lit (.int .i64 0), .lit (.int .i64 4096), .lit (.int .i64 0)]]
def laid_aileron_call_fields {H : Type} : DataW H := .agg [.lit (.int .i64 1), .lit (.int .i64 513), .lit (.int .i64 1), .lit (.int .i64 256), .lit (.int .i64 13), .lit (.int .i64 0), .lit (.int .i64 2), .lit (.int .i64 176), .lit (.int .i64 64), .lit (.int .i64 0)]
/-- One of Go's own tables, pinned by name: the form's constant. -/
def laid_unicode_utf8_first : DataW Unit := Go.Pinned.utf8First

/-- 'aileronlaw23.TasksHome': WHATEVER THE INPUT: true; the input reads as it did. -/
def tasksHomeSpec : ChangeSpec := { name := "tasksHome", fn := fun _ => fun
  | [d1, d2] => { results := [.lit (.bool true)], args := [d1, d2] }
  | _ => none }
def tasksHomeRow : OpenClaim := { program := "ytpilfhjlfbjloaagreatdoor", sum := "a034cd55e005dfebc9ceccdfe4089194fa921256c493327c19326fccab4ddc31", func := "aileron/aileronlaw23.TasksHome", spec := "tasksHome", inPlace := ["math.archTrunc", "math.Float64bits", "math.Float64frombits", "internal/bytealg.IndexByteString", "internal/bytealg.IndexString"], unfollowed := true, recurses := true, named := ["unicode/utf8.first", "unicode/utf8.acceptRanges", "aileron/call.fields", "aileron/modes.ways", "internal/bytealg.MaxLen"], plainKeys := false, apart := false, laid := [("unicode/utf8.acceptRanges", laid_unicode_utf8_acceptRanges), ("aileron/modes.ways", laid_aileron_modes_ways), ("aileron/call.fields", laid_aileron_call_fields), ("unicode/utf8.first", laid_unicode_utf8_first)] }
def TasksHomeSaid : Prop := tasksHomeRow.holds Tryz.pinned (OpenSpec.ofChange tasksHomeSpec)

/-- ITS FALSE NEIGHBOUR: 'it returns false'. Refute it at one input. -/
def tasksHomeWrong : ChangeSpec := { name := "tasksHome", fn := fun _ => fun
  | [d1, d2] => { results := [.lit (.bool false)], args := [d1, d2] }
  | _ => none }
def TasksHomeWrongFalsely : Prop := tasksHomeRow.holds Tryz.pinned (OpenSpec.ofChange tasksHomeWrong)

/-- 'aileronlaw23.TasksBoard': WHATEVER THE INPUT: true; the input reads as it did. -/
def tasksBoardSpec : ChangeSpec := { name := "tasksBoard", fn := fun _ => fun
  | [d1, d2] => { results := [.lit (.bool true)], args := [d1, d2] }
  | _ => none }
def tasksBoardRow : OpenClaim := { program := "ytpilfhjlfbjloaagreatdoor", sum := "a034cd55e005dfebc9ceccdfe4089194fa921256c493327c19326fccab4ddc31", func := "aileron/aileronlaw23.TasksBoard", spec := "tasksBoard", inPlace := ["internal/bytealg.IndexByteString", "internal/bytealg.IndexString", "math.archTrunc", "math.Float64bits", "math.Float64frombits"], unfollowed := true, recurses := true, named := ["unicode/utf8.first", "unicode/utf8.acceptRanges", "aileron/call.fields", "aileron/modes.ways", "internal/bytealg.MaxLen"], plainKeys := false, apart := false, laid := [("unicode/utf8.acceptRanges", laid_unicode_utf8_acceptRanges), ("aileron/modes.ways", laid_aileron_modes_ways), ("aileron/call.fields", laid_aileron_call_fields), ("unicode/utf8.first", laid_unicode_utf8_first)] }
def TasksBoardSaid : Prop := tasksBoardRow.holds Tryz.pinned (OpenSpec.ofChange tasksBoardSpec)

/-- ITS FALSE NEIGHBOUR: 'it returns false'. Refute it at one input. -/
def tasksBoardWrong : ChangeSpec := { name := "tasksBoard", fn := fun _ => fun
  | [d1, d2] => { results := [.lit (.bool false)], args := [d1, d2] }
  | _ => none }
def TasksBoardWrongFalsely : Prop := tasksBoardRow.holds Tryz.pinned (OpenSpec.ofChange tasksBoardWrong)

/- THE SECOND FORM. 'bulk': how many values and letters a reading holds, each counted each time it is reached (what is shared counts as often as it is met; a slice's spare places count too). A statement '..UptoSaid' is the law's where the arguments, and the package variables that the reading takes, are together of bulk at most 1048576: NARROWER than '..Said'. Prove '..Said' where nothing that the law and all that it calls make is longer than what came in: it says more and counts as full. Else prove '..UptoSaid'. A law counts once. -/
mutual
def uptoBulk {H : Type} : DataW H → Nat
  | .lit (.string bytes) => bytes.length + 1
  | .lit _ => 1
  | .nil => 1
  | .ptr d => uptoBulk d + 1
  | .slice elems spare => uptoBulkAll elems + uptoBulkAll spare + 1
  | .agg parts => uptoBulkAll parts + 1
  | .iface _ d => uptoBulk d + 1
  | .map entries => uptoBulkEntries entries + 1
  | .held _ => 1
def uptoBulkAll {H : Type} : List (DataW H) → Nat
  | [] => 0
  | d :: r => uptoBulk d + uptoBulkAll r
def uptoBulkEntries {H : Type} : List (Lit × DataW H) → Nat
  | [] => 0
  | x :: r => uptoBulkEntry x + uptoBulkEntries r
def uptoBulkEntry {H : Type} : Lit × DataW H → Nat
  | (.string bytes, d) => bytes.length + uptoBulk d + 1
  | (_, d) => uptoBulk d + 1
 end
def uptoSmall : (H : Type) → List (DataW H) → Bool := fun _ ds => decide (uptoBulkAll ds ≤ 1048576)
def OpenSpec.upto (s : _root_.Go.ChangeSpec) : _root_.Go.OpenSpec := { _root_.Go.OpenSpec.ofChange s with cond := some uptoSmall }

/-- 'aileronlaw23.TasksHome', WHERE WHAT IT READS IS OF BULK AT MOST 1048576: true; the input reads as it did. -/
def tasksHomeUptoRow : OpenClaim := { program := "ytpilfhjlfbjloaagreatdoor", sum := "a034cd55e005dfebc9ceccdfe4089194fa921256c493327c19326fccab4ddc31", func := "aileron/aileronlaw23.TasksHome", spec := "tasksHome", inPlace := ["math.archTrunc", "math.Float64bits", "math.Float64frombits", "internal/bytealg.IndexByteString", "internal/bytealg.IndexString"], unfollowed := true, recurses := true, named := ["unicode/utf8.first", "unicode/utf8.acceptRanges", "aileron/call.fields", "aileron/modes.ways", "internal/bytealg.MaxLen"], plainKeys := false, apart := false, laid := [("unicode/utf8.acceptRanges", laid_unicode_utf8_acceptRanges), ("aileron/modes.ways", laid_aileron_modes_ways), ("aileron/call.fields", laid_aileron_call_fields), ("unicode/utf8.first", laid_unicode_utf8_first)], narrowed := true }
def TasksHomeUptoSaid : Prop := tasksHomeUptoRow.holds Tryz.pinned (OpenSpec.upto tasksHomeSpec)

/-- 'aileronlaw23.TasksBoard', WHERE WHAT IT READS IS OF BULK AT MOST 1048576: true; the input reads as it did. -/
def tasksBoardUptoRow : OpenClaim := { program := "ytpilfhjlfbjloaagreatdoor", sum := "a034cd55e005dfebc9ceccdfe4089194fa921256c493327c19326fccab4ddc31", func := "aileron/aileronlaw23.TasksBoard", spec := "tasksBoard", inPlace := ["internal/bytealg.IndexByteString", "internal/bytealg.IndexString", "math.archTrunc", "math.Float64bits", "math.Float64frombits"], unfollowed := true, recurses := true, named := ["unicode/utf8.first", "unicode/utf8.acceptRanges", "aileron/call.fields", "aileron/modes.ways", "internal/bytealg.MaxLen"], plainKeys := false, apart := false, laid := [("unicode/utf8.acceptRanges", laid_unicode_utf8_acceptRanges), ("aileron/modes.ways", laid_aileron_modes_ways), ("aileron/call.fields", laid_aileron_call_fields), ("unicode/utf8.first", laid_unicode_utf8_first)], narrowed := true }
def TasksBoardUptoSaid : Prop := tasksBoardUptoRow.holds Tryz.pinned (OpenSpec.upto tasksBoardSpec)

end Rows
end Go.Proofs.YtpilfhjlfbjloaaGreatDoor
