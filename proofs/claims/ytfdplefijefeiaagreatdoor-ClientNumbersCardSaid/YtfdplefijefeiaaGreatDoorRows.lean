/-
  NARROWER THAN 'FOR EVERY INPUT', by the rows' own cells (each row's printed sentence says how): HouseNames: laid · ClientNumbers: laid · ClientFaults: laid.
  DERIVED. THE GIVEN ROWS OF THIS SEAT. 3 by the template 'for every input the law returns true; each argument reads behind the call as it read before'; 0 by the template 'total and deterministic' (their statements: YtfdplefijefeiaaGreatDoorTotals.lean).
  GIVEN WITH THE SEED: the statements are not yours to turn. If you find one false, say at which input.
  Laid BY PROGRAM, IN A SANDBOX (cutbox-rows.mjs): the forced cells as the released guide's own fill.sh prints them over the translation 28100dcc0bbcd3e9… (all of the seat's roots in one cut). By AI agents, Wed Nov 11 2026. No macro, syntax, notation, axiom, sorry.
-/
import Derived.Test.YtfdplefijefeiaaGreatDoorChecked
import GoSem.PinnedTables
import GoSem.Claim
import GoSem.ClaimJoined
import GoSem.ClaimMapViews
import Derived.JoinedTies
import Derived.KernelRfl
namespace Go.Proofs.YtfdplefijefeiaaGreatDoor
/- THE CELL 'sum', in the pinned program and in every row, IS THE sha256 OF THE DUMP (.gsa) THAT YtfdplefijefeiaaGreatDoorProg.lean LOADS. Nothing in Lean hashes anything: it is a label: what it is worth is what the hold of that sum in a sandbox is worth. -/
noncomputable def Tryz.pinned : Pinned := { name := "ytfdplefijefeiaagreatdoor", sum := "28100dcc0bbcd3e9404217b19d4f3eb7f63751d8c3323a3ccda8120a8ebc6445", checked := Tryz.checked }
namespace Rows
def none {H : Type} : Left H := { results := [], args := [] }

/- WHAT THE LISTED PACKAGE-LEVEL VARIABLES READ AS WHEN THE CALL BEGINS. Each datum BY PROGRAM (the guide's laid-datum.mjs) off the statement by which the dump's own 'gosem.cut.vars' lays the variable. In a bare row this is a premise. The card (YtfdplefijefeiaaGreatDoorCards.lean) ties it to the program's text. -/
def laid_math_bits_deBruijn32tab {H : Type} : DataW H := .agg [.lit (.int .u8 0), .lit (.int .u8 1), .lit (.int .u8 28), .lit (.int .u8 2), .lit (.int .u8 29), .lit (.int .u8 14), .lit (.int .u8 24), .lit (.int .u8 3), .lit (.int .u8 30), .lit (.int .u8 22), .lit (.int .u8 20), .lit (.int .u8 15), .lit (.int .u8 25), .lit (.int .u8 17), .lit (.int .u8 4), .lit (.int .u8 8), .lit (.int .u8 31), .lit (.int .u8 27), .lit (.int .u8 13), .lit (.int .u8 23), .lit (.int .u8 21), .lit (.int .u8 19), .lit (.int .u8 16), .lit (.int .u8 7), .lit (.int .u8 26), .lit (.int .u8 12), .lit (.int .u8 18), .lit (.int .u8 6), .lit (.int .u8 11), .lit (.int .u8 5), .lit (.int .u8 10), .lit (.int .u8 9)]
def laid_math_bits_deBruijn64tab {H : Type} : DataW H := .agg [.lit (.int .u8 0), .lit (.int .u8 1), .lit (.int .u8 56), .lit (.int .u8 2), .lit (.int .u8 57), .lit (.int .u8 49), .lit (.int .u8 28), .lit (.int .u8 3), .lit (.int .u8 61), .lit (.int .u8 58), .lit (.int .u8 42), .lit (.int .u8 50), .lit (.int .u8 38), .lit (.int .u8 29), .lit (.int .u8 17), .lit (.int .u8 4), .lit (.int .u8 62), .lit (.int .u8 47), .lit (.int .u8 59), .lit (.int .u8 36), .lit (.int .u8 45), .lit (.int .u8 43), .lit (.int .u8 51), .lit (.int .u8 22), .lit (.int .u8 53), .lit (.int .u8 39), .lit (.int .u8 33), .lit (.int .u8 30), .lit (.int .u8 24), .lit (.int .u8 18), .lit (.int .u8 12), .lit (.int .u8 5), .lit (.int .u8 63), .lit (.int .u8 55), .lit (.int .u8 48), .lit (.int .u8 27), .lit (.int .u8 60), .lit (.int .u8 41), .lit (.int .u8 37), .lit (.int .u8 16), .lit (.int .u8 46), .lit (.int .u8 35), .lit (.int .u8 44), .lit (.int .u8 21), .lit (.int .u8 52), .lit (.int .u8 32), .lit (.int .u8 23), .lit (.int .u8 11), .lit (.int .u8 54), .lit (.int .u8 26), .lit (.int .u8 40), .lit (.int .u8 15), .lit (.int .u8 34), .lit (.int .u8 20), .lit (.int .u8 31), .lit (.int .u8 10), .lit (.int .u8 25), .lit (.int .u8 14), .lit (.int .u8 19), .lit (.int .u8 9), .lit (.int .u8 13), .lit (.int .u8 8), .lit (.int .u8 7), .lit (.int .u8 6)]
def laid_internal_strconv_uint64pow10 {H : Type} : DataW H := .agg [.lit (.int .u64 1), .lit (.int .u64 10), .lit (.int .u64 100), .lit (.int .u64 1000), .lit (.int .u64 10000), .lit (.int .u64 100000), .lit (.int .u64 1000000), .lit (.int .u64 10000000), .lit (.int .u64 100000000), .lit (.int .u64 1000000000), .lit (.int .u64 10000000000), .lit (.int .u64 100000000000), .lit (.int .u64 1000000000000), .lit (.int .u64 10000000000000), .lit (.int .u64 100000000000000), .lit (.int .u64 1000000000000000), .lit (.int .u64 10000000000000000), .lit (.int .u64 100000000000000000), .lit (.int .u64 1000000000000000000), .lit (.int .u64 10000000000000000000)]
def laid_unicode_utf8_acceptRanges {H : Type} : DataW H := .agg [.agg [.lit (.int .u8 128), .lit (.int .u8 191)], .agg [.lit (.int .u8 160), .lit (.int .u8 191)], .agg [.lit (.int .u8 128), .lit (.int .u8 159)], .agg [.lit (.int .u8 144), .lit (.int .u8 191)], .agg [.lit (.int .u8 128), .lit (.int .u8 143)], .agg [.lit (.int .u8 0), .lit (.int .u8 0)], .agg [.lit (.int .u8 0), .lit (.int .u8 0)], .agg [.lit (.int .u8 0), .lit (.int .u8 0)], .agg [.lit (.int .u8 0), .lit (.int .u8 0)], .agg [.lit (.int .u8 0), .lit (.int .u8 0)], .agg [.lit (.int .u8 0), .lit (.int .u8 0)], .agg [.lit (.int .u8 0), .lit (.int .u8 0)], .agg [.lit (.int .u8 0), .lit (.int .u8 0)], .agg [.lit (.int .u8 0), .lit (.int .u8 0)], .agg [.lit (.int .u8 0), .lit (.int .u8 0)], .agg [.lit (.int .u8 0), .lit (.int .u8 0)]]
/-- One of Go's own tables, pinned by name: the form's constant. -/
def laid_unicode_utf8_first : DataW Unit := Go.Pinned.utf8First
def laid_stint_client_ErrNotFound {H : Type} : DataW H := .iface "*errors.errorString" (.ptr (.agg [.lit (.string [110, 111, 116, 32, 102, 111, 117, 110, 100])]))
def laid_stint_client_ErrProtocol {H : Type} : DataW H := .iface "*errors.errorString" (.ptr (.agg [.lit (.string [110, 111, 116, 32, 116, 104, 101, 32, 112, 114, 111, 116, 111, 99, 111, 108])]))
def laid_stint_client_ErrWaits {H : Type} : DataW H := .iface "*errors.errorString" (.ptr (.agg [.lit (.string [110, 111, 32, 97, 110, 115, 119, 101, 114, 32, 121, 101, 116])]))
def laid_stint_client_ErrClosed {H : Type} : DataW H := .iface "*errors.errorString" (.ptr (.agg [.lit (.string [99, 108, 111, 115, 101, 100])]))
def laid_errors_errorType {H : Type} : DataW H := .iface "internal/reflectlite.rtype" (.agg [.ptr (.lit (.string [101, 114, 114, 111, 114]))])
def laid_stint_client_ErrNoMemory {H : Type} : DataW H := .iface "*errors.errorString" (.ptr (.agg [.lit (.string [111, 117, 116, 32, 111, 102, 32, 109, 101, 109, 111, 114, 121])]))
def laid_stint_client_ErrDraining {H : Type} : DataW H := .iface "*errors.errorString" (.ptr (.agg [.lit (.string [100, 114, 97, 105, 110, 105, 110, 103])]))
def laid_stint_client_ErrTooBig {H : Type} : DataW H := .iface "*errors.errorString" (.ptr (.agg [.lit (.string [116, 111, 111, 32, 98, 105, 103])]))
def laid_stint_client_ErrSoon {H : Type} : DataW H := .iface "*errors.errorString" (.ptr (.agg [.lit (.string [97, 32, 114, 101, 115, 101, 114, 118, 97, 116, 105, 111, 110, 32, 101, 110, 100, 115, 32, 115, 111, 111, 110])]))
def laid_stint_client_ErrTimedOut {H : Type} : DataW H := .iface "*errors.errorString" (.ptr (.agg [.lit (.string [116, 105, 109, 101, 100, 32, 111, 117, 116])]))
def laid_stint_client_ErrNotIgnored {H : Type} : DataW H := .iface "*errors.errorString" (.ptr (.agg [.lit (.string [110, 111, 116, 32, 105, 103, 110, 111, 114, 101, 100])]))
def laid_stint_client_ErrBuried {H : Type} : DataW H := .iface "*errors.errorString" (.ptr (.agg [.lit (.string [98, 117, 114, 105, 101, 100])]))

/-- 'stintlaw18.HouseNames': WHATEVER THE INPUT: true; the input reads as it did. -/
def houseNamesSpec : ChangeSpec := { name := "houseNames", fn := fun _ => fun
  | [] => { results := [.lit (.bool true)], args := [] }
  | _ => none }
def houseNamesRow : OpenClaim := { program := "ytfdplefijefeiaagreatdoor", sum := "28100dcc0bbcd3e9404217b19d4f3eb7f63751d8c3323a3ccda8120a8ebc6445", func := "stint/stintlaw18.HouseNames", spec := "houseNames", inPlace := ["internal/bytealg.IndexByteString", "internal/bytealg.IndexByte", "internal/bytealg.Index", "internal/bytealg.IndexString", "internal/bytealg.CountString", "maps.clone"], unfollowed := true, recurses := true, named := ["internal/bytealg.MaxLen", "unicode/utf8.first", "unicode/utf8.acceptRanges", "internal/strconv.uint64pow10", "math/bits.deBruijn32tab", "math/bits.deBruijn64tab"], apart := false, laid := [("math/bits.deBruijn32tab", laid_math_bits_deBruijn32tab), ("math/bits.deBruijn64tab", laid_math_bits_deBruijn64tab), ("internal/strconv.uint64pow10", laid_internal_strconv_uint64pow10), ("unicode/utf8.acceptRanges", laid_unicode_utf8_acceptRanges), ("unicode/utf8.first", laid_unicode_utf8_first)] }
def HouseNamesSaid : Prop := houseNamesRow.holds Tryz.pinned (OpenSpec.ofChange houseNamesSpec)

/-- ITS FALSE NEIGHBOUR: 'it returns false'. Refute it at one input. -/
def houseNamesWrong : ChangeSpec := { name := "houseNames", fn := fun _ => fun
  | [] => { results := [.lit (.bool false)], args := [] }
  | _ => none }
def HouseNamesWrongFalsely : Prop := houseNamesRow.holds Tryz.pinned (OpenSpec.ofChange houseNamesWrong)

/-- 'stintlaw22.ClientNumbers': WHATEVER THE INPUT: true; the input reads as it did. -/
def clientNumbersSpec : ChangeSpec := { name := "clientNumbers", fn := fun _ => fun
  | [] => { results := [.lit (.bool true)], args := [] }
  | _ => none }
def clientNumbersRow : OpenClaim := { program := "ytfdplefijefeiaagreatdoor", sum := "28100dcc0bbcd3e9404217b19d4f3eb7f63751d8c3323a3ccda8120a8ebc6445", func := "stint/stintlaw22.ClientNumbers", spec := "clientNumbers", inPlace := ["internal/bytealg.IndexByteString", "internal/reflectlite.TypeOf", "internal/abi.NoEscape", "internal/bytealg.MakeNoZero", "internal/bytealg.IndexByte", "internal/bytealg.Index", "internal/bytealg.IndexString", "internal/bytealg.CountString", "maps.clone"], unfollowed := true, recurses := true, named := ["stint/client.ErrClosed", "stint/client.ErrNotFound", "stint/client.ErrWaits", "stint/client.ErrProtocol", "internal/strconv.uint64pow10", "math/bits.deBruijn32tab", "math/bits.deBruijn64tab", "internal/bytealg.MaxLen", "unicode/utf8.first", "unicode/utf8.acceptRanges"], apart := false, laid := [("math/bits.deBruijn32tab", laid_math_bits_deBruijn32tab), ("math/bits.deBruijn64tab", laid_math_bits_deBruijn64tab), ("internal/strconv.uint64pow10", laid_internal_strconv_uint64pow10), ("unicode/utf8.acceptRanges", laid_unicode_utf8_acceptRanges), ("stint/client.ErrNotFound", laid_stint_client_ErrNotFound), ("stint/client.ErrProtocol", laid_stint_client_ErrProtocol), ("stint/client.ErrWaits", laid_stint_client_ErrWaits), ("stint/client.ErrClosed", laid_stint_client_ErrClosed), ("unicode/utf8.first", laid_unicode_utf8_first)] }
def ClientNumbersSaid : Prop := clientNumbersRow.holds Tryz.pinned (OpenSpec.ofChange clientNumbersSpec)

/-- ITS FALSE NEIGHBOUR: 'it returns false'. Refute it at one input. -/
def clientNumbersWrong : ChangeSpec := { name := "clientNumbers", fn := fun _ => fun
  | [] => { results := [.lit (.bool false)], args := [] }
  | _ => none }
def ClientNumbersWrongFalsely : Prop := clientNumbersRow.holds Tryz.pinned (OpenSpec.ofChange clientNumbersWrong)

/-- 'stintlaw22.ClientFaults': WHATEVER THE INPUT: true; the input reads as it did. -/
def clientFaultsSpec : ChangeSpec := { name := "clientFaults", fn := fun _ => fun
  | [d1, d2] => { results := [.lit (.bool true)], args := [d1, d2] }
  | _ => none }
def clientFaultsRow : OpenClaim := { program := "ytfdplefijefeiaagreatdoor", sum := "28100dcc0bbcd3e9404217b19d4f3eb7f63751d8c3323a3ccda8120a8ebc6445", func := "stint/stintlaw22.ClientFaults", spec := "clientFaults", inPlace := ["internal/bytealg.IndexByteString", "internal/reflectlite.TypeOf", "internal/abi.NoEscape", "internal/bytealg.MakeNoZero", "internal/bytealg.IndexByte", "internal/bytealg.Index", "internal/bytealg.IndexString", "internal/bytealg.CountString", "maps.clone", "internal/reflectlite.ValueOf", "(internal/reflectlite.Value).Type", "(internal/reflectlite.Value).IsNil", "(internal/reflectlite.Value).Elem", "(internal/reflectlite.Value).Set"], unfollowed := true, recurses := true, named := ["stint/client.ErrClosed", "stint/client.ErrNotFound", "stint/client.ErrWaits", "stint/client.ErrProtocol", "internal/strconv.uint64pow10", "math/bits.deBruijn32tab", "math/bits.deBruijn64tab", "internal/bytealg.MaxLen", "unicode/utf8.first", "unicode/utf8.acceptRanges", "errors.errorType", "stint/client.ErrNoMemory", "stint/client.ErrDraining", "stint/client.ErrTooBig", "stint/client.ErrSoon", "stint/client.ErrTimedOut", "stint/client.ErrNotIgnored", "stint/client.ErrBuried"], apart := false, laid := [("math/bits.deBruijn32tab", laid_math_bits_deBruijn32tab), ("math/bits.deBruijn64tab", laid_math_bits_deBruijn64tab), ("internal/strconv.uint64pow10", laid_internal_strconv_uint64pow10), ("unicode/utf8.acceptRanges", laid_unicode_utf8_acceptRanges), ("errors.errorType", laid_errors_errorType), ("stint/client.ErrNotFound", laid_stint_client_ErrNotFound), ("stint/client.ErrNoMemory", laid_stint_client_ErrNoMemory), ("stint/client.ErrDraining", laid_stint_client_ErrDraining), ("stint/client.ErrTooBig", laid_stint_client_ErrTooBig), ("stint/client.ErrSoon", laid_stint_client_ErrSoon), ("stint/client.ErrTimedOut", laid_stint_client_ErrTimedOut), ("stint/client.ErrNotIgnored", laid_stint_client_ErrNotIgnored), ("stint/client.ErrBuried", laid_stint_client_ErrBuried), ("stint/client.ErrProtocol", laid_stint_client_ErrProtocol), ("stint/client.ErrWaits", laid_stint_client_ErrWaits), ("stint/client.ErrClosed", laid_stint_client_ErrClosed), ("unicode/utf8.first", laid_unicode_utf8_first)] }
def ClientFaultsSaid : Prop := clientFaultsRow.holds Tryz.pinned (OpenSpec.ofChange clientFaultsSpec)

/-- ITS FALSE NEIGHBOUR: 'it returns false'. Refute it at one input. -/
def clientFaultsWrong : ChangeSpec := { name := "clientFaults", fn := fun _ => fun
  | [d1, d2] => { results := [.lit (.bool false)], args := [d1, d2] }
  | _ => none }
def ClientFaultsWrongFalsely : Prop := clientFaultsRow.holds Tryz.pinned (OpenSpec.ofChange clientFaultsWrong)

/- THE SECOND FORM. 'bulk': how many values and letters a reading holds, each counted each time it is reached (what is shared counts as often as it is met; a slice's spare places count too). A statement '..UptoSaid' is the law's where the arguments, and the package variables that the reading takes, are together of bulk at most 1048576: NARROWER than '..Said'. Prove '..Said' where nothing that the law and all that it calls make is longer than what came in: it says more and counts as full. Else prove '..UptoSaid'. A law counts once. -/
mutual
def uptoBulk {H : Type} : DataW H → Nat
  | .lit (.string bytes) => bytes.length + 1
  | .lit _ => 1
  | .nil => 1
  | .ptr d => uptoBulk d + 1
  | .slice elems spare => uptoBulkAll elems + uptoBulkAll spare + 1
  | .agg parts => uptoBulkAll parts + 1
  | .iface _ d => uptoBulk d + 1
  | .map entries => uptoBulkEntries entries + 1
  | .held _ => 1
def uptoBulkAll {H : Type} : List (DataW H) → Nat
  | [] => 0
  | d :: r => uptoBulk d + uptoBulkAll r
def uptoBulkEntries {H : Type} : List (Lit × DataW H) → Nat
  | [] => 0
  | x :: r => uptoBulkEntry x + uptoBulkEntries r
def uptoBulkEntry {H : Type} : Lit × DataW H → Nat
  | (.string bytes, d) => bytes.length + uptoBulk d + 1
  | (_, d) => uptoBulk d + 1
 end
def uptoSmall : (H : Type) → List (DataW H) → Bool := fun _ ds => decide (uptoBulkAll ds ≤ 1048576)
def OpenSpec.upto (s : _root_.Go.ChangeSpec) : _root_.Go.OpenSpec := { _root_.Go.OpenSpec.ofChange s with cond := some uptoSmall }

/-- 'stintlaw18.HouseNames', WHERE WHAT IT READS IS OF BULK AT MOST 1048576: true; the input reads as it did. -/
def houseNamesUptoRow : OpenClaim := { program := "ytfdplefijefeiaagreatdoor", sum := "28100dcc0bbcd3e9404217b19d4f3eb7f63751d8c3323a3ccda8120a8ebc6445", func := "stint/stintlaw18.HouseNames", spec := "houseNames", inPlace := ["internal/bytealg.IndexByteString", "internal/bytealg.IndexByte", "internal/bytealg.Index", "internal/bytealg.IndexString", "internal/bytealg.CountString", "maps.clone"], unfollowed := true, recurses := true, named := ["internal/bytealg.MaxLen", "unicode/utf8.first", "unicode/utf8.acceptRanges", "internal/strconv.uint64pow10", "math/bits.deBruijn32tab", "math/bits.deBruijn64tab"], apart := false, laid := [("math/bits.deBruijn32tab", laid_math_bits_deBruijn32tab), ("math/bits.deBruijn64tab", laid_math_bits_deBruijn64tab), ("internal/strconv.uint64pow10", laid_internal_strconv_uint64pow10), ("unicode/utf8.acceptRanges", laid_unicode_utf8_acceptRanges), ("unicode/utf8.first", laid_unicode_utf8_first)], narrowed := true }
def HouseNamesUptoSaid : Prop := houseNamesUptoRow.holds Tryz.pinned (OpenSpec.upto houseNamesSpec)

/-- 'stintlaw22.ClientNumbers', WHERE WHAT IT READS IS OF BULK AT MOST 1048576: true; the input reads as it did. -/
def clientNumbersUptoRow : OpenClaim := { program := "ytfdplefijefeiaagreatdoor", sum := "28100dcc0bbcd3e9404217b19d4f3eb7f63751d8c3323a3ccda8120a8ebc6445", func := "stint/stintlaw22.ClientNumbers", spec := "clientNumbers", inPlace := ["internal/bytealg.IndexByteString", "internal/reflectlite.TypeOf", "internal/abi.NoEscape", "internal/bytealg.MakeNoZero", "internal/bytealg.IndexByte", "internal/bytealg.Index", "internal/bytealg.IndexString", "internal/bytealg.CountString", "maps.clone"], unfollowed := true, recurses := true, named := ["stint/client.ErrClosed", "stint/client.ErrNotFound", "stint/client.ErrWaits", "stint/client.ErrProtocol", "internal/strconv.uint64pow10", "math/bits.deBruijn32tab", "math/bits.deBruijn64tab", "internal/bytealg.MaxLen", "unicode/utf8.first", "unicode/utf8.acceptRanges"], apart := false, laid := [("math/bits.deBruijn32tab", laid_math_bits_deBruijn32tab), ("math/bits.deBruijn64tab", laid_math_bits_deBruijn64tab), ("internal/strconv.uint64pow10", laid_internal_strconv_uint64pow10), ("unicode/utf8.acceptRanges", laid_unicode_utf8_acceptRanges), ("stint/client.ErrNotFound", laid_stint_client_ErrNotFound), ("stint/client.ErrProtocol", laid_stint_client_ErrProtocol), ("stint/client.ErrWaits", laid_stint_client_ErrWaits), ("stint/client.ErrClosed", laid_stint_client_ErrClosed), ("unicode/utf8.first", laid_unicode_utf8_first)], narrowed := true }
def ClientNumbersUptoSaid : Prop := clientNumbersUptoRow.holds Tryz.pinned (OpenSpec.upto clientNumbersSpec)

/-- 'stintlaw22.ClientFaults', WHERE WHAT IT READS IS OF BULK AT MOST 1048576: true; the input reads as it did. -/
def clientFaultsUptoRow : OpenClaim := { program := "ytfdplefijefeiaagreatdoor", sum := "28100dcc0bbcd3e9404217b19d4f3eb7f63751d8c3323a3ccda8120a8ebc6445", func := "stint/stintlaw22.ClientFaults", spec := "clientFaults", inPlace := ["internal/bytealg.IndexByteString", "internal/reflectlite.TypeOf", "internal/abi.NoEscape", "internal/bytealg.MakeNoZero", "internal/bytealg.IndexByte", "internal/bytealg.Index", "internal/bytealg.IndexString", "internal/bytealg.CountString", "maps.clone", "internal/reflectlite.ValueOf", "(internal/reflectlite.Value).Type", "(internal/reflectlite.Value).IsNil", "(internal/reflectlite.Value).Elem", "(internal/reflectlite.Value).Set"], unfollowed := true, recurses := true, named := ["stint/client.ErrClosed", "stint/client.ErrNotFound", "stint/client.ErrWaits", "stint/client.ErrProtocol", "internal/strconv.uint64pow10", "math/bits.deBruijn32tab", "math/bits.deBruijn64tab", "internal/bytealg.MaxLen", "unicode/utf8.first", "unicode/utf8.acceptRanges", "errors.errorType", "stint/client.ErrNoMemory", "stint/client.ErrDraining", "stint/client.ErrTooBig", "stint/client.ErrSoon", "stint/client.ErrTimedOut", "stint/client.ErrNotIgnored", "stint/client.ErrBuried"], apart := false, laid := [("math/bits.deBruijn32tab", laid_math_bits_deBruijn32tab), ("math/bits.deBruijn64tab", laid_math_bits_deBruijn64tab), ("internal/strconv.uint64pow10", laid_internal_strconv_uint64pow10), ("unicode/utf8.acceptRanges", laid_unicode_utf8_acceptRanges), ("errors.errorType", laid_errors_errorType), ("stint/client.ErrNotFound", laid_stint_client_ErrNotFound), ("stint/client.ErrNoMemory", laid_stint_client_ErrNoMemory), ("stint/client.ErrDraining", laid_stint_client_ErrDraining), ("stint/client.ErrTooBig", laid_stint_client_ErrTooBig), ("stint/client.ErrSoon", laid_stint_client_ErrSoon), ("stint/client.ErrTimedOut", laid_stint_client_ErrTimedOut), ("stint/client.ErrNotIgnored", laid_stint_client_ErrNotIgnored), ("stint/client.ErrBuried", laid_stint_client_ErrBuried), ("stint/client.ErrProtocol", laid_stint_client_ErrProtocol), ("stint/client.ErrWaits", laid_stint_client_ErrWaits), ("stint/client.ErrClosed", laid_stint_client_ErrClosed), ("unicode/utf8.first", laid_unicode_utf8_first)], narrowed := true }
def ClientFaultsUptoSaid : Prop := clientFaultsUptoRow.holds Tryz.pinned (OpenSpec.upto clientFaultsSpec)

end Rows
end Go.Proofs.YtfdplefijefeiaaGreatDoor
