/-
  NARROWER THAN 'FOR EVERY INPUT', by the rows' own cells (each row's printed sentence says how): QuotaFits: laid · QuotaLess: laid · QuotaJust: laid · QuotaApart: laid · QuotaInPlace: laid · QuotaTells: laid · QuotaLeft: laid · QuotaKeeps: laid.
  DERIVED. THE GIVEN ROWS OF THIS SEAT. 8 by the template 'for every input the law returns true; each argument reads behind the call as it read before'; 0 by the template 'total and deterministic' (their statements: YtnjblinbdimkjaaGreatDoorTotals.lean).
  GIVEN WITH THE SEED: the statements are not yours to turn. If you find one false, say at which input.
  Laid BY PROGRAM, IN A SANDBOX (cutbox-rows.mjs): the forced cells as the released guide's own fill.sh prints them over the translation 725153fb8e3ed9e4… (all of the seat's roots in one cut). By AI agents, Wed Nov 11 2026. No macro, syntax, notation, axiom, sorry.
-/
import Derived.Test.YtnjblinbdimkjaaGreatDoorChecked
import GoSem.PinnedTables
import GoSem.Claim
import GoSem.ClaimJoined
import GoSem.ClaimMapViews
import Derived.JoinedTies
import Derived.KernelRfl
namespace Go.Proofs.YtnjblinbdimkjaaGreatDoor
/- THE CELL 'sum', in the pinned program and in every row, IS THE sha256 OF THE DUMP (.gsa) THAT YtnjblinbdimkjaaGreatDoorProg.lean LOADS. Nothing in Lean hashes anything: it is a label: what it is worth is what the hold of that sum in a sandbox is worth. -/
noncomputable def Tryz.pinned : Pinned := { name := "ytnjblinbdimkjaagreatdoor", sum := "725153fb8e3ed9e43178a1ae7e35d24617d5abab1f720b3475eccf9e83c16610", checked := Tryz.checked }
namespace Rows
def none {H : Type} : Left H := { results := [], args := [] }

/- WHAT THE LISTED PACKAGE-LEVEL VARIABLES READ AS WHEN THE CALL BEGINS. Each datum BY PROGRAM (the guide's laid-datum.mjs) off the statement by which the dump's own 'gosem.cut.vars' lays the variable. In a bare row this is a premise. The card (YtnjblinbdimkjaaGreatDoorCards.lean) ties it to the program's text. -/
def laid_unicode_utf8_acceptRanges {H : Type} : DataW H := .agg [.agg [.lit (.int .u8 128), .lit (.int .u8 191)], .agg [.lit (.int .u8 160), .lit (.int .u8 191)], .agg [.lit (.int .u8 128), .lit (.int .u8 159)], .agg [.lit (.int .u8 144), .lit (.int .u8 191)], .agg [.lit (.int .u8 128), .lit (.int .u8 143)], .agg [.lit (.int .u8 0), .lit (.int .u8 0)], .agg [.lit (.int .u8 0), .lit (.int .u8 0)], .agg [.lit (.int .u8 0), .lit (.int .u8 0)], .agg [.lit (.int .u8 0), .lit (.int .u8 0)], .agg [.lit (.int .u8 0), .lit (.int .u8 0)], .agg [.lit (.int .u8 0), .lit (.int .u8 0)], .agg [.lit (.int .u8 0), .lit (.int .u8 0)], .agg [.lit (.int .u8 0), .lit (.int .u8 0)], .agg [.lit (.int .u8 0), .lit (.int .u8 0)], .agg [.lit (.int .u8 0), .lit (.int .u8 0)], .agg [.lit (.int .u8 0), .lit (.int .u8 0)]]
def laid_bursar_object_letters {H : Type} : DataW H := .agg [.lit (.int .u8 0), .lit (.int .u8 81), .lit (.int .u8 76), .lit (.int .u8 79), .lit (.int .u8 66)]
def laid_bursar_scope_texts {H : Type} : DataW H := .agg [.lit (.string [97, 108, 108]), .lit (.string [98, 101, 115, 116]), .lit (.string [110, 111, 116, 98, 101, 115, 116]), .lit (.string [101, 110, 100, 115]), .lit (.string [110, 111, 116, 101, 110, 100, 115]), .lit (.string [112, 114, 105, 111, 114, 105, 116, 121, 61])]
/-- One of Go's own tables, pinned by name: the form's constant. -/
def laid_unicode_utf8_first : DataW Unit := Go.Pinned.utf8First

/-- 'bursarlaw18.QuotaFits': WHATEVER THE INPUT: true; the input reads as it did. -/
def quotaFitsSpec : ChangeSpec := { name := "quotaFits", fn := fun _ => fun
  | [d1, d2, d3, d4] => { results := [.lit (.bool true)], args := [d1, d2, d3, d4] }
  | _ => none }
def quotaFitsRow : OpenClaim := { program := "ytnjblinbdimkjaagreatdoor", sum := "725153fb8e3ed9e43178a1ae7e35d24617d5abab1f720b3475eccf9e83c16610", func := "bursar/bursarlaw18.QuotaFits", spec := "quotaFits", inPlace := ["internal/bytealg.CountString", "internal/bytealg.IndexByteString", "internal/bytealg.IndexString", "internal/bytealg.abigen_runtime_cmpstring", "math/bits.Add64"], unfollowed := true, recurses := true, named := ["unicode/utf8.first", "unicode/utf8.acceptRanges", "internal/bytealg.MaxLen", "bursar/scope.texts", "bursar/object.letters"], plainKeys := false, apart := false, laid := [("unicode/utf8.acceptRanges", laid_unicode_utf8_acceptRanges), ("bursar/object.letters", laid_bursar_object_letters), ("bursar/scope.texts", laid_bursar_scope_texts), ("unicode/utf8.first", laid_unicode_utf8_first)] }
def QuotaFitsSaid : Prop := quotaFitsRow.holds Tryz.pinned (OpenSpec.ofChange quotaFitsSpec)

/-- ITS FALSE NEIGHBOUR: 'it returns false'. Refute it at one input. -/
def quotaFitsWrong : ChangeSpec := { name := "quotaFits", fn := fun _ => fun
  | [d1, d2, d3, d4] => { results := [.lit (.bool false)], args := [d1, d2, d3, d4] }
  | _ => none }
def QuotaFitsWrongFalsely : Prop := quotaFitsRow.holds Tryz.pinned (OpenSpec.ofChange quotaFitsWrong)

/-- 'bursarlaw18.QuotaLess': WHATEVER THE INPUT: true; the input reads as it did. -/
def quotaLessSpec : ChangeSpec := { name := "quotaLess", fn := fun _ => fun
  | [d1, d2, d3, d4] => { results := [.lit (.bool true)], args := [d1, d2, d3, d4] }
  | _ => none }
def quotaLessRow : OpenClaim := { program := "ytnjblinbdimkjaagreatdoor", sum := "725153fb8e3ed9e43178a1ae7e35d24617d5abab1f720b3475eccf9e83c16610", func := "bursar/bursarlaw18.QuotaLess", spec := "quotaLess", inPlace := ["internal/bytealg.CountString", "internal/bytealg.IndexByteString", "internal/bytealg.IndexString", "internal/bytealg.abigen_runtime_cmpstring", "math/bits.Add64"], unfollowed := true, recurses := true, named := ["unicode/utf8.first", "unicode/utf8.acceptRanges", "internal/bytealg.MaxLen", "bursar/scope.texts", "bursar/object.letters"], plainKeys := false, apart := false, laid := [("unicode/utf8.acceptRanges", laid_unicode_utf8_acceptRanges), ("bursar/object.letters", laid_bursar_object_letters), ("bursar/scope.texts", laid_bursar_scope_texts), ("unicode/utf8.first", laid_unicode_utf8_first)] }
def QuotaLessSaid : Prop := quotaLessRow.holds Tryz.pinned (OpenSpec.ofChange quotaLessSpec)

/-- ITS FALSE NEIGHBOUR: 'it returns false'. Refute it at one input. -/
def quotaLessWrong : ChangeSpec := { name := "quotaLess", fn := fun _ => fun
  | [d1, d2, d3, d4] => { results := [.lit (.bool false)], args := [d1, d2, d3, d4] }
  | _ => none }
def QuotaLessWrongFalsely : Prop := quotaLessRow.holds Tryz.pinned (OpenSpec.ofChange quotaLessWrong)

/-- 'bursarlaw18.QuotaJust': WHATEVER THE INPUT: true; the input reads as it did. -/
def quotaJustSpec : ChangeSpec := { name := "quotaJust", fn := fun _ => fun
  | [d1, d2, d3, d4] => { results := [.lit (.bool true)], args := [d1, d2, d3, d4] }
  | _ => none }
def quotaJustRow : OpenClaim := { program := "ytnjblinbdimkjaagreatdoor", sum := "725153fb8e3ed9e43178a1ae7e35d24617d5abab1f720b3475eccf9e83c16610", func := "bursar/bursarlaw18.QuotaJust", spec := "quotaJust", inPlace := ["internal/bytealg.CountString", "internal/bytealg.IndexByteString", "internal/bytealg.IndexString", "internal/bytealg.abigen_runtime_cmpstring", "math/bits.Add64"], unfollowed := true, recurses := true, named := ["unicode/utf8.first", "unicode/utf8.acceptRanges", "internal/bytealg.MaxLen", "bursar/scope.texts", "bursar/object.letters"], plainKeys := false, apart := false, laid := [("unicode/utf8.acceptRanges", laid_unicode_utf8_acceptRanges), ("bursar/object.letters", laid_bursar_object_letters), ("bursar/scope.texts", laid_bursar_scope_texts), ("unicode/utf8.first", laid_unicode_utf8_first)] }
def QuotaJustSaid : Prop := quotaJustRow.holds Tryz.pinned (OpenSpec.ofChange quotaJustSpec)

/-- ITS FALSE NEIGHBOUR: 'it returns false'. Refute it at one input. -/
def quotaJustWrong : ChangeSpec := { name := "quotaJust", fn := fun _ => fun
  | [d1, d2, d3, d4] => { results := [.lit (.bool false)], args := [d1, d2, d3, d4] }
  | _ => none }
def QuotaJustWrongFalsely : Prop := quotaJustRow.holds Tryz.pinned (OpenSpec.ofChange quotaJustWrong)

/-- 'bursarlaw18.QuotaApart': WHATEVER THE INPUT: true; the input reads as it did. -/
def quotaApartSpec : ChangeSpec := { name := "quotaApart", fn := fun _ => fun
  | [d1, d2] => { results := [.lit (.bool true)], args := [d1, d2] }
  | _ => none }
def quotaApartRow : OpenClaim := { program := "ytnjblinbdimkjaagreatdoor", sum := "725153fb8e3ed9e43178a1ae7e35d24617d5abab1f720b3475eccf9e83c16610", func := "bursar/bursarlaw18.QuotaApart", spec := "quotaApart", inPlace := ["internal/bytealg.CountString", "internal/bytealg.IndexByteString", "internal/bytealg.IndexString", "internal/bytealg.abigen_runtime_cmpstring", "math/bits.Add64"], unfollowed := true, recurses := true, named := ["unicode/utf8.first", "unicode/utf8.acceptRanges", "internal/bytealg.MaxLen", "bursar/scope.texts", "bursar/object.letters"], plainKeys := false, apart := false, laid := [("unicode/utf8.acceptRanges", laid_unicode_utf8_acceptRanges), ("bursar/object.letters", laid_bursar_object_letters), ("bursar/scope.texts", laid_bursar_scope_texts), ("unicode/utf8.first", laid_unicode_utf8_first)] }
def QuotaApartSaid : Prop := quotaApartRow.holds Tryz.pinned (OpenSpec.ofChange quotaApartSpec)

/-- ITS FALSE NEIGHBOUR: 'it returns false'. Refute it at one input. -/
def quotaApartWrong : ChangeSpec := { name := "quotaApart", fn := fun _ => fun
  | [d1, d2] => { results := [.lit (.bool false)], args := [d1, d2] }
  | _ => none }
def QuotaApartWrongFalsely : Prop := quotaApartRow.holds Tryz.pinned (OpenSpec.ofChange quotaApartWrong)

/-- 'bursarlaw18.QuotaInPlace': WHATEVER THE INPUT: true; the input reads as it did. -/
def quotaInPlaceSpec : ChangeSpec := { name := "quotaInPlace", fn := fun _ => fun
  | [d1, d2, d3] => { results := [.lit (.bool true)], args := [d1, d2, d3] }
  | _ => none }
def quotaInPlaceRow : OpenClaim := { program := "ytnjblinbdimkjaagreatdoor", sum := "725153fb8e3ed9e43178a1ae7e35d24617d5abab1f720b3475eccf9e83c16610", func := "bursar/bursarlaw18.QuotaInPlace", spec := "quotaInPlace", inPlace := ["internal/bytealg.CountString", "internal/bytealg.IndexByteString", "internal/bytealg.IndexString", "internal/bytealg.abigen_runtime_cmpstring", "math/bits.Add64"], unfollowed := true, recurses := true, named := ["unicode/utf8.first", "unicode/utf8.acceptRanges", "internal/bytealg.MaxLen", "bursar/scope.texts", "bursar/object.letters"], plainKeys := false, apart := false, laid := [("unicode/utf8.acceptRanges", laid_unicode_utf8_acceptRanges), ("bursar/object.letters", laid_bursar_object_letters), ("bursar/scope.texts", laid_bursar_scope_texts), ("unicode/utf8.first", laid_unicode_utf8_first)] }
def QuotaInPlaceSaid : Prop := quotaInPlaceRow.holds Tryz.pinned (OpenSpec.ofChange quotaInPlaceSpec)

/-- ITS FALSE NEIGHBOUR: 'it returns false'. Refute it at one input. -/
def quotaInPlaceWrong : ChangeSpec := { name := "quotaInPlace", fn := fun _ => fun
  | [d1, d2, d3] => { results := [.lit (.bool false)], args := [d1, d2, d3] }
  | _ => none }
def QuotaInPlaceWrongFalsely : Prop := quotaInPlaceRow.holds Tryz.pinned (OpenSpec.ofChange quotaInPlaceWrong)

/-- 'bursarlaw18.QuotaTells': WHATEVER THE INPUT: true; the input reads as it did. -/
def quotaTellsSpec : ChangeSpec := { name := "quotaTells", fn := fun _ => fun
  | [d1, d2, d3, d4, d5] => { results := [.lit (.bool true)], args := [d1, d2, d3, d4, d5] }
  | _ => none }
def quotaTellsRow : OpenClaim := { program := "ytnjblinbdimkjaagreatdoor", sum := "725153fb8e3ed9e43178a1ae7e35d24617d5abab1f720b3475eccf9e83c16610", func := "bursar/bursarlaw18.QuotaTells", spec := "quotaTells", inPlace := ["internal/bytealg.CountString", "internal/bytealg.IndexByteString", "internal/bytealg.IndexString", "internal/bytealg.abigen_runtime_cmpstring", "math/bits.Add64"], unfollowed := true, recurses := true, named := ["unicode/utf8.first", "unicode/utf8.acceptRanges", "internal/bytealg.MaxLen", "bursar/scope.texts", "bursar/object.letters"], plainKeys := false, apart := false, laid := [("unicode/utf8.acceptRanges", laid_unicode_utf8_acceptRanges), ("bursar/object.letters", laid_bursar_object_letters), ("bursar/scope.texts", laid_bursar_scope_texts), ("unicode/utf8.first", laid_unicode_utf8_first)] }
def QuotaTellsSaid : Prop := quotaTellsRow.holds Tryz.pinned (OpenSpec.ofChange quotaTellsSpec)

/-- ITS FALSE NEIGHBOUR: 'it returns false'. Refute it at one input. -/
def quotaTellsWrong : ChangeSpec := { name := "quotaTells", fn := fun _ => fun
  | [d1, d2, d3, d4, d5] => { results := [.lit (.bool false)], args := [d1, d2, d3, d4, d5] }
  | _ => none }
def QuotaTellsWrongFalsely : Prop := quotaTellsRow.holds Tryz.pinned (OpenSpec.ofChange quotaTellsWrong)

/-- 'bursarlaw18.QuotaLeft': WHATEVER THE INPUT: true; the input reads as it did. -/
def quotaLeftSpec : ChangeSpec := { name := "quotaLeft", fn := fun _ => fun
  | [d1, d2, d3] => { results := [.lit (.bool true)], args := [d1, d2, d3] }
  | _ => none }
def quotaLeftRow : OpenClaim := { program := "ytnjblinbdimkjaagreatdoor", sum := "725153fb8e3ed9e43178a1ae7e35d24617d5abab1f720b3475eccf9e83c16610", func := "bursar/bursarlaw18.QuotaLeft", spec := "quotaLeft", inPlace := ["internal/bytealg.CountString", "internal/bytealg.IndexByteString", "internal/bytealg.IndexString", "internal/bytealg.abigen_runtime_cmpstring", "math/bits.Add64"], unfollowed := true, recurses := true, named := ["unicode/utf8.first", "unicode/utf8.acceptRanges", "internal/bytealg.MaxLen", "bursar/scope.texts", "bursar/object.letters"], plainKeys := false, apart := false, laid := [("unicode/utf8.acceptRanges", laid_unicode_utf8_acceptRanges), ("bursar/object.letters", laid_bursar_object_letters), ("bursar/scope.texts", laid_bursar_scope_texts), ("unicode/utf8.first", laid_unicode_utf8_first)] }
def QuotaLeftSaid : Prop := quotaLeftRow.holds Tryz.pinned (OpenSpec.ofChange quotaLeftSpec)

/-- ITS FALSE NEIGHBOUR: 'it returns false'. Refute it at one input. -/
def quotaLeftWrong : ChangeSpec := { name := "quotaLeft", fn := fun _ => fun
  | [d1, d2, d3] => { results := [.lit (.bool false)], args := [d1, d2, d3] }
  | _ => none }
def QuotaLeftWrongFalsely : Prop := quotaLeftRow.holds Tryz.pinned (OpenSpec.ofChange quotaLeftWrong)

/-- 'bursarlaw18.QuotaKeeps': WHATEVER THE INPUT: true; the input reads as it did. -/
def quotaKeepsSpec : ChangeSpec := { name := "quotaKeeps", fn := fun _ => fun
  | [d1, d2] => { results := [.lit (.bool true)], args := [d1, d2] }
  | _ => none }
def quotaKeepsRow : OpenClaim := { program := "ytnjblinbdimkjaagreatdoor", sum := "725153fb8e3ed9e43178a1ae7e35d24617d5abab1f720b3475eccf9e83c16610", func := "bursar/bursarlaw18.QuotaKeeps", spec := "quotaKeeps", inPlace := ["internal/bytealg.CountString", "internal/bytealg.IndexByteString", "internal/bytealg.IndexString", "internal/bytealg.abigen_runtime_cmpstring", "math/bits.Add64"], unfollowed := true, recurses := true, named := ["unicode/utf8.first", "unicode/utf8.acceptRanges", "internal/bytealg.MaxLen", "bursar/scope.texts", "bursar/object.letters"], plainKeys := false, apart := false, laid := [("unicode/utf8.acceptRanges", laid_unicode_utf8_acceptRanges), ("bursar/object.letters", laid_bursar_object_letters), ("bursar/scope.texts", laid_bursar_scope_texts), ("unicode/utf8.first", laid_unicode_utf8_first)] }
def QuotaKeepsSaid : Prop := quotaKeepsRow.holds Tryz.pinned (OpenSpec.ofChange quotaKeepsSpec)

/-- ITS FALSE NEIGHBOUR: 'it returns false'. Refute it at one input. -/
def quotaKeepsWrong : ChangeSpec := { name := "quotaKeeps", fn := fun _ => fun
  | [d1, d2] => { results := [.lit (.bool false)], args := [d1, d2] }
  | _ => none }
def QuotaKeepsWrongFalsely : Prop := quotaKeepsRow.holds Tryz.pinned (OpenSpec.ofChange quotaKeepsWrong)

/- THE SECOND FORM. 'bulk': how many values and letters a reading holds, each counted each time it is reached (what is shared counts as often as it is met; a slice's spare places count too). A statement '..UptoSaid' is the law's where the arguments, and the package variables that the reading takes, are together of bulk at most 1048576: NARROWER than '..Said'. Prove '..Said' where nothing that the law and all that it calls make is longer than what came in: it says more and counts as full. Else prove '..UptoSaid'. A law counts once. -/
mutual
def uptoBulk {H : Type} : DataW H → Nat
  | .lit (.string bytes) => bytes.length + 1
  | .lit _ => 1
  | .nil => 1
  | .ptr d => uptoBulk d + 1
  | .slice elems spare => uptoBulkAll elems + uptoBulkAll spare + 1
  | .agg parts => uptoBulkAll parts + 1
  | .iface _ d => uptoBulk d + 1
  | .map entries => uptoBulkEntries entries + 1
  | .held _ => 1
def uptoBulkAll {H : Type} : List (DataW H) → Nat
  | [] => 0
  | d :: r => uptoBulk d + uptoBulkAll r
def uptoBulkEntries {H : Type} : List (Lit × DataW H) → Nat
  | [] => 0
  | x :: r => uptoBulkEntry x + uptoBulkEntries r
def uptoBulkEntry {H : Type} : Lit × DataW H → Nat
  | (.string bytes, d) => bytes.length + uptoBulk d + 1
  | (_, d) => uptoBulk d + 1
 end
def uptoSmall : (H : Type) → List (DataW H) → Bool := fun _ ds => decide (uptoBulkAll ds ≤ 1048576)
def OpenSpec.upto (s : _root_.Go.ChangeSpec) : _root_.Go.OpenSpec := { _root_.Go.OpenSpec.ofChange s with cond := some uptoSmall }

/-- 'bursarlaw18.QuotaFits', WHERE WHAT IT READS IS OF BULK AT MOST 1048576: true; the input reads as it did. -/
def quotaFitsUptoRow : OpenClaim := { program := "ytnjblinbdimkjaagreatdoor", sum := "725153fb8e3ed9e43178a1ae7e35d24617d5abab1f720b3475eccf9e83c16610", func := "bursar/bursarlaw18.QuotaFits", spec := "quotaFits", inPlace := ["internal/bytealg.CountString", "internal/bytealg.IndexByteString", "internal/bytealg.IndexString", "internal/bytealg.abigen_runtime_cmpstring", "math/bits.Add64"], unfollowed := true, recurses := true, named := ["unicode/utf8.first", "unicode/utf8.acceptRanges", "internal/bytealg.MaxLen", "bursar/scope.texts", "bursar/object.letters"], plainKeys := false, apart := false, laid := [("unicode/utf8.acceptRanges", laid_unicode_utf8_acceptRanges), ("bursar/object.letters", laid_bursar_object_letters), ("bursar/scope.texts", laid_bursar_scope_texts), ("unicode/utf8.first", laid_unicode_utf8_first)], narrowed := true }
def QuotaFitsUptoSaid : Prop := quotaFitsUptoRow.holds Tryz.pinned (OpenSpec.upto quotaFitsSpec)

/-- 'bursarlaw18.QuotaLess', WHERE WHAT IT READS IS OF BULK AT MOST 1048576: true; the input reads as it did. -/
def quotaLessUptoRow : OpenClaim := { program := "ytnjblinbdimkjaagreatdoor", sum := "725153fb8e3ed9e43178a1ae7e35d24617d5abab1f720b3475eccf9e83c16610", func := "bursar/bursarlaw18.QuotaLess", spec := "quotaLess", inPlace := ["internal/bytealg.CountString", "internal/bytealg.IndexByteString", "internal/bytealg.IndexString", "internal/bytealg.abigen_runtime_cmpstring", "math/bits.Add64"], unfollowed := true, recurses := true, named := ["unicode/utf8.first", "unicode/utf8.acceptRanges", "internal/bytealg.MaxLen", "bursar/scope.texts", "bursar/object.letters"], plainKeys := false, apart := false, laid := [("unicode/utf8.acceptRanges", laid_unicode_utf8_acceptRanges), ("bursar/object.letters", laid_bursar_object_letters), ("bursar/scope.texts", laid_bursar_scope_texts), ("unicode/utf8.first", laid_unicode_utf8_first)], narrowed := true }
def QuotaLessUptoSaid : Prop := quotaLessUptoRow.holds Tryz.pinned (OpenSpec.upto quotaLessSpec)

/-- 'bursarlaw18.QuotaJust', WHERE WHAT IT READS IS OF BULK AT MOST 1048576: true; the input reads as it did. -/
def quotaJustUptoRow : OpenClaim := { program := "ytnjblinbdimkjaagreatdoor", sum := "725153fb8e3ed9e43178a1ae7e35d24617d5abab1f720b3475eccf9e83c16610", func := "bursar/bursarlaw18.QuotaJust", spec := "quotaJust", inPlace := ["internal/bytealg.CountString", "internal/bytealg.IndexByteString", "internal/bytealg.IndexString", "internal/bytealg.abigen_runtime_cmpstring", "math/bits.Add64"], unfollowed := true, recurses := true, named := ["unicode/utf8.first", "unicode/utf8.acceptRanges", "internal/bytealg.MaxLen", "bursar/scope.texts", "bursar/object.letters"], plainKeys := false, apart := false, laid := [("unicode/utf8.acceptRanges", laid_unicode_utf8_acceptRanges), ("bursar/object.letters", laid_bursar_object_letters), ("bursar/scope.texts", laid_bursar_scope_texts), ("unicode/utf8.first", laid_unicode_utf8_first)], narrowed := true }
def QuotaJustUptoSaid : Prop := quotaJustUptoRow.holds Tryz.pinned (OpenSpec.upto quotaJustSpec)

/-- 'bursarlaw18.QuotaApart', WHERE WHAT IT READS IS OF BULK AT MOST 1048576: true; the input reads as it did. -/
def quotaApartUptoRow : OpenClaim := { program := "ytnjblinbdimkjaagreatdoor", sum := "725153fb8e3ed9e43178a1ae7e35d24617d5abab1f720b3475eccf9e83c16610", func := "bursar/bursarlaw18.QuotaApart", spec := "quotaApart", inPlace := ["internal/bytealg.CountString", "internal/bytealg.IndexByteString", "internal/bytealg.IndexString", "internal/bytealg.abigen_runtime_cmpstring", "math/bits.Add64"], unfollowed := true, recurses := true, named := ["unicode/utf8.first", "unicode/utf8.acceptRanges", "internal/bytealg.MaxLen", "bursar/scope.texts", "bursar/object.letters"], plainKeys := false, apart := false, laid := [("unicode/utf8.acceptRanges", laid_unicode_utf8_acceptRanges), ("bursar/object.letters", laid_bursar_object_letters), ("bursar/scope.texts", laid_bursar_scope_texts), ("unicode/utf8.first", laid_unicode_utf8_first)], narrowed := true }
def QuotaApartUptoSaid : Prop := quotaApartUptoRow.holds Tryz.pinned (OpenSpec.upto quotaApartSpec)

/-- 'bursarlaw18.QuotaInPlace', WHERE WHAT IT READS IS OF BULK AT MOST 1048576: true; the input reads as it did. -/
def quotaInPlaceUptoRow : OpenClaim := { program := "ytnjblinbdimkjaagreatdoor", sum := "725153fb8e3ed9e43178a1ae7e35d24617d5abab1f720b3475eccf9e83c16610", func := "bursar/bursarlaw18.QuotaInPlace", spec := "quotaInPlace", inPlace := ["internal/bytealg.CountString", "internal/bytealg.IndexByteString", "internal/bytealg.IndexString", "internal/bytealg.abigen_runtime_cmpstring", "math/bits.Add64"], unfollowed := true, recurses := true, named := ["unicode/utf8.first", "unicode/utf8.acceptRanges", "internal/bytealg.MaxLen", "bursar/scope.texts", "bursar/object.letters"], plainKeys := false, apart := false, laid := [("unicode/utf8.acceptRanges", laid_unicode_utf8_acceptRanges), ("bursar/object.letters", laid_bursar_object_letters), ("bursar/scope.texts", laid_bursar_scope_texts), ("unicode/utf8.first", laid_unicode_utf8_first)], narrowed := true }
def QuotaInPlaceUptoSaid : Prop := quotaInPlaceUptoRow.holds Tryz.pinned (OpenSpec.upto quotaInPlaceSpec)

/-- 'bursarlaw18.QuotaTells', WHERE WHAT IT READS IS OF BULK AT MOST 1048576: true; the input reads as it did. -/
def quotaTellsUptoRow : OpenClaim := { program := "ytnjblinbdimkjaagreatdoor", sum := "725153fb8e3ed9e43178a1ae7e35d24617d5abab1f720b3475eccf9e83c16610", func := "bursar/bursarlaw18.QuotaTells", spec := "quotaTells", inPlace := ["internal/bytealg.CountString", "internal/bytealg.IndexByteString", "internal/bytealg.IndexString", "internal/bytealg.abigen_runtime_cmpstring", "math/bits.Add64"], unfollowed := true, recurses := true, named := ["unicode/utf8.first", "unicode/utf8.acceptRanges", "internal/bytealg.MaxLen", "bursar/scope.texts", "bursar/object.letters"], plainKeys := false, apart := false, laid := [("unicode/utf8.acceptRanges", laid_unicode_utf8_acceptRanges), ("bursar/object.letters", laid_bursar_object_letters), ("bursar/scope.texts", laid_bursar_scope_texts), ("unicode/utf8.first", laid_unicode_utf8_first)], narrowed := true }
def QuotaTellsUptoSaid : Prop := quotaTellsUptoRow.holds Tryz.pinned (OpenSpec.upto quotaTellsSpec)

/-- 'bursarlaw18.QuotaLeft', WHERE WHAT IT READS IS OF BULK AT MOST 1048576: true; the input reads as it did. -/
def quotaLeftUptoRow : OpenClaim := { program := "ytnjblinbdimkjaagreatdoor", sum := "725153fb8e3ed9e43178a1ae7e35d24617d5abab1f720b3475eccf9e83c16610", func := "bursar/bursarlaw18.QuotaLeft", spec := "quotaLeft", inPlace := ["internal/bytealg.CountString", "internal/bytealg.IndexByteString", "internal/bytealg.IndexString", "internal/bytealg.abigen_runtime_cmpstring", "math/bits.Add64"], unfollowed := true, recurses := true, named := ["unicode/utf8.first", "unicode/utf8.acceptRanges", "internal/bytealg.MaxLen", "bursar/scope.texts", "bursar/object.letters"], plainKeys := false, apart := false, laid := [("unicode/utf8.acceptRanges", laid_unicode_utf8_acceptRanges), ("bursar/object.letters", laid_bursar_object_letters), ("bursar/scope.texts", laid_bursar_scope_texts), ("unicode/utf8.first", laid_unicode_utf8_first)], narrowed := true }
def QuotaLeftUptoSaid : Prop := quotaLeftUptoRow.holds Tryz.pinned (OpenSpec.upto quotaLeftSpec)

/-- 'bursarlaw18.QuotaKeeps', WHERE WHAT IT READS IS OF BULK AT MOST 1048576: true; the input reads as it did. -/
def quotaKeepsUptoRow : OpenClaim := { program := "ytnjblinbdimkjaagreatdoor", sum := "725153fb8e3ed9e43178a1ae7e35d24617d5abab1f720b3475eccf9e83c16610", func := "bursar/bursarlaw18.QuotaKeeps", spec := "quotaKeeps", inPlace := ["internal/bytealg.CountString", "internal/bytealg.IndexByteString", "internal/bytealg.IndexString", "internal/bytealg.abigen_runtime_cmpstring", "math/bits.Add64"], unfollowed := true, recurses := true, named := ["unicode/utf8.first", "unicode/utf8.acceptRanges", "internal/bytealg.MaxLen", "bursar/scope.texts", "bursar/object.letters"], plainKeys := false, apart := false, laid := [("unicode/utf8.acceptRanges", laid_unicode_utf8_acceptRanges), ("bursar/object.letters", laid_bursar_object_letters), ("bursar/scope.texts", laid_bursar_scope_texts), ("unicode/utf8.first", laid_unicode_utf8_first)], narrowed := true }
def QuotaKeepsUptoSaid : Prop := quotaKeepsUptoRow.holds Tryz.pinned (OpenSpec.upto quotaKeepsSpec)

end Rows
end Go.Proofs.YtnjblinbdimkjaaGreatDoor
