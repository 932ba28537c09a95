/-
  NARROWER THAN 'FOR EVERY INPUT', by the rows' own cells (each row's printed sentence says how): HalfVerdicts: loops, laid · HalfHolds: loops, laid · HalfTold: loops, laid · HalfStays: loops, laid · HalfWhole: loops, laid.
  DERIVED. THE GIVEN ROWS OF THIS SEAT. 5 by the template 'for every input the law returns true; each argument reads behind the call as it read before'; 0 by the template 'total and deterministic' (their statements: YtgjokdngbocehaaGreatDoorTotals.lean).
  GIVEN WITH THE SEED: the statements are not yours to turn. If you find one false, say at which input.
  Laid BY PROGRAM, IN A SANDBOX (cutbox-rows.mjs): the forced cells as the released guide's own fill.sh prints them over the translation 8d30312315ad8235… (all of the seat's roots in one cut). By AI agents, Wed Nov 11 2026. No macro, syntax, notation, axiom, sorry.
-/
import Derived.Test.YtgjokdngbocehaaGreatDoorChecked
import GoSem.PinnedTables
import GoSem.Claim
import GoSem.ClaimJoined
import GoSem.ClaimMapViews
import Derived.JoinedTies
import Derived.KernelRfl
namespace Go.Proofs.YtgjokdngbocehaaGreatDoor
/- THE CELL 'sum', in the pinned program and in every row, IS THE sha256 OF THE DUMP (.gsa) THAT YtgjokdngbocehaaGreatDoorProg.lean LOADS. Nothing in Lean hashes anything: it is a label: what it is worth is what the hold of that sum in a sandbox is worth. -/
noncomputable def Tryz.pinned : Pinned := { name := "ytgjokdngbocehaagreatdoor", sum := "8d30312315ad8235432a7ef021f26d045bbea9e1a1cb54b82474f007d61584e3", checked := Tryz.checked }
namespace Rows
def none {H : Type} : Left H := { results := [], args := [] }

/- WHAT THE LISTED PACKAGE-LEVEL VARIABLES READ AS WHEN THE CALL BEGINS. Each datum BY PROGRAM (the guide's laid-datum.mjs) off the statement by which the dump's own 'gosem.cut.vars' lays the variable. In a bare row this is a premise. The card (YtgjokdngbocehaaGreatDoorCards.lean) ties it to the program's text. -/
def laid_unicode_utf8_acceptRanges {H : Type} : DataW H := .agg [.agg [.lit (.int .u8 128), .lit (.int .u8 191)], .agg [.lit (.int .u8 160), .lit (.int .u8 191)], .agg [.lit (.int .u8 128), .lit (.int .u8 159)], .agg [.lit (.int .u8 144), .lit (.int .u8 191)], .agg [.lit (.int .u8 128), .lit (.int .u8 143)], .agg [.lit (.int .u8 0), .lit (.int .u8 0)], .agg [.lit (.int .u8 0), .lit (.int .u8 0)], .agg [.lit (.int .u8 0), .lit (.int .u8 0)], .agg [.lit (.int .u8 0), .lit (.int .u8 0)], .agg [.lit (.int .u8 0), .lit (.int .u8 0)], .agg [.lit (.int .u8 0), .lit (.int .u8 0)], .agg [.lit (.int .u8 0), .lit (.int .u8 0)], .agg [.lit (.int .u8 0), .lit (.int .u8 0)], .agg [.lit (.int .u8 0), .lit (.int .u8 0)], .agg [.lit (.int .u8 0), .lit (.int .u8 0)], .agg [.lit (.int .u8 0), .lit (.int .u8 0)]]
def laid_gimlet_chars_ranges {H : Type} : DataW H := .agg [.slice [.agg [.lit (.int .i32 9), .lit (.int .i32 10)], .agg [.lit (.int .i32 13), .lit (.int .i32 13)], .agg [.lit (.int .i32 32), .lit (.int .i32 55295)], .agg [.lit (.int .i32 57344), .lit (.int .i32 65533)], .agg [.lit (.int .i32 65536), .lit (.int .i32 1114111)]] [], .slice [.agg [.lit (.int .i32 9), .lit (.int .i32 10)], .agg [.lit (.int .i32 13), .lit (.int .i32 13)], .agg [.lit (.int .i32 32), .lit (.int .i32 32)]] [], .slice [.agg [.lit (.int .i32 65), .lit (.int .i32 90)], .agg [.lit (.int .i32 95), .lit (.int .i32 95)], .agg [.lit (.int .i32 97), .lit (.int .i32 122)], .agg [.lit (.int .i32 192), .lit (.int .i32 214)], .agg [.lit (.int .i32 216), .lit (.int .i32 246)], .agg [.lit (.int .i32 248), .lit (.int .i32 767)], .agg [.lit (.int .i32 880), .lit (.int .i32 893)], .agg [.lit (.int .i32 895), .lit (.int .i32 8191)], .agg [.lit (.int .i32 8204), .lit (.int .i32 8205)], .agg [.lit (.int .i32 8304), .lit (.int .i32 8591)], .agg [.lit (.int .i32 11264), .lit (.int .i32 12271)], .agg [.lit (.int .i32 12289), .lit (.int .i32 55295)], .agg [.lit (.int .i32 63744), .lit (.int .i32 64975)], .agg [.lit (.int .i32 65008), .lit (.int .i32 65533)], .agg [.lit (.int .i32 65536), .lit (.int .i32 983039)]] [], .slice [.agg [.lit (.int .i32 45), .lit (.int .i32 46)], .agg [.lit (.int .i32 48), .lit (.int .i32 57)], .agg [.lit (.int .i32 65), .lit (.int .i32 90)], .agg [.lit (.int .i32 95), .lit (.int .i32 95)], .agg [.lit (.int .i32 97), .lit (.int .i32 122)], .agg [.lit (.int .i32 183), .lit (.int .i32 183)], .agg [.lit (.int .i32 192), .lit (.int .i32 214)], .agg [.lit (.int .i32 216), .lit (.int .i32 246)], .agg [.lit (.int .i32 248), .lit (.int .i32 893)], .agg [.lit (.int .i32 895), .lit (.int .i32 8191)], .agg [.lit (.int .i32 8204), .lit (.int .i32 8205)], .agg [.lit (.int .i32 8255), .lit (.int .i32 8256)], .agg [.lit (.int .i32 8304), .lit (.int .i32 8591)], .agg [.lit (.int .i32 11264), .lit (.int .i32 12271)], .agg [.lit (.int .i32 12289), .lit (.int .i32 55295)], .agg [.lit (.int .i32 63744), .lit (.int .i32 64975)], .agg [.lit (.int .i32 65008), .lit (.int .i32 65533)], .agg [.lit (.int .i32 65536), .lit (.int .i32 983039)]] [], .slice [.agg [.lit (.int .i32 48), .lit (.int .i32 57)]] [], .slice [.agg [.lit (.int .i32 48), .lit (.int .i32 57)], .agg [.lit (.int .i32 65), .lit (.int .i32 70)], .agg [.lit (.int .i32 97), .lit (.int .i32 102)]] []]
/-- One of Go's own tables, pinned by name: the form's constant. -/
def laid_unicode_utf8_first : DataW Unit := Go.Pinned.utf8First

/-- 'gimletlaw15.HalfVerdicts': WHATEVER THE INPUT: true; the input reads as it did. -/
def halfVerdictsSpec : ChangeSpec := { name := "halfVerdicts", fn := fun _ => fun
  | [d1, d2] => { results := [.lit (.bool true)], args := [d1, d2] }
  | _ => none }
def halfVerdictsRow : OpenClaim := { program := "ytgjokdngbocehaagreatdoor", sum := "8d30312315ad8235432a7ef021f26d045bbea9e1a1cb54b82474f007d61584e3", func := "gimlet/gimletlaw15.HalfVerdicts", spec := "halfVerdicts", inPlace := ["internal/bytealg.IndexByteString", "internal/bytealg.IndexString"], unfollowed := true, recurses := true, named := ["gimlet/chars.ranges", "unicode/utf8.first", "unicode/utf8.acceptRanges", "internal/bytealg.MaxLen"], loops := true, apart := false, laid := [("unicode/utf8.acceptRanges", laid_unicode_utf8_acceptRanges), ("gimlet/chars.ranges", laid_gimlet_chars_ranges), ("unicode/utf8.first", laid_unicode_utf8_first)] }
def HalfVerdictsSaid : Prop := halfVerdictsRow.holds Tryz.pinned (OpenSpec.ofChange halfVerdictsSpec)

/-- ITS FALSE NEIGHBOUR: 'it returns false'. Refute it at one input. -/
def halfVerdictsWrong : ChangeSpec := { name := "halfVerdicts", fn := fun _ => fun
  | [d1, d2] => { results := [.lit (.bool false)], args := [d1, d2] }
  | _ => none }
def HalfVerdictsWrongFalsely : Prop := halfVerdictsRow.holds Tryz.pinned (OpenSpec.ofChange halfVerdictsWrong)

/-- 'gimletlaw15.HalfHolds': WHATEVER THE INPUT: true; the input reads as it did. -/
def halfHoldsSpec : ChangeSpec := { name := "halfHolds", fn := fun _ => fun
  | [d1, d2] => { results := [.lit (.bool true)], args := [d1, d2] }
  | _ => none }
def halfHoldsRow : OpenClaim := { program := "ytgjokdngbocehaagreatdoor", sum := "8d30312315ad8235432a7ef021f26d045bbea9e1a1cb54b82474f007d61584e3", func := "gimlet/gimletlaw15.HalfHolds", spec := "halfHolds", inPlace := ["internal/bytealg.IndexByteString", "internal/bytealg.IndexString"], unfollowed := true, recurses := true, named := ["gimlet/chars.ranges", "unicode/utf8.first", "unicode/utf8.acceptRanges", "internal/bytealg.MaxLen"], loops := true, apart := false, laid := [("unicode/utf8.acceptRanges", laid_unicode_utf8_acceptRanges), ("gimlet/chars.ranges", laid_gimlet_chars_ranges), ("unicode/utf8.first", laid_unicode_utf8_first)] }
def HalfHoldsSaid : Prop := halfHoldsRow.holds Tryz.pinned (OpenSpec.ofChange halfHoldsSpec)

/-- ITS FALSE NEIGHBOUR: 'it returns false'. Refute it at one input. -/
def halfHoldsWrong : ChangeSpec := { name := "halfHolds", fn := fun _ => fun
  | [d1, d2] => { results := [.lit (.bool false)], args := [d1, d2] }
  | _ => none }
def HalfHoldsWrongFalsely : Prop := halfHoldsRow.holds Tryz.pinned (OpenSpec.ofChange halfHoldsWrong)

/-- 'gimletlaw15.HalfTold': WHATEVER THE INPUT: true; the input reads as it did. -/
def halfToldSpec : ChangeSpec := { name := "halfTold", fn := fun _ => fun
  | [d1, d2] => { results := [.lit (.bool true)], args := [d1, d2] }
  | _ => none }
def halfToldRow : OpenClaim := { program := "ytgjokdngbocehaagreatdoor", sum := "8d30312315ad8235432a7ef021f26d045bbea9e1a1cb54b82474f007d61584e3", func := "gimlet/gimletlaw15.HalfTold", spec := "halfTold", inPlace := ["internal/bytealg.IndexByteString", "internal/bytealg.IndexString", "internal/abi.NoEscape", "sync/atomic.LoadUint32", "(*internal/sync.Mutex).Lock", "internal/race.Disable", "sync/atomic.CompareAndSwapInt32", "internal/race.Enable", "internal/race.Acquire", "(*internal/sync.Mutex).lockSlow", "internal/sync.runtime_canSpin", "internal/sync.runtime_doSpin", "internal/sync.throw", "internal/sync.runtime_nanotime", "internal/sync.runtime_SemacquireMutex", "sync/atomic.AddInt32", "(*internal/sync.Mutex).Unlock", "internal/race.ReleaseMerge", "(*internal/sync.Mutex).unlockSlow", "internal/sync.fatal", "internal/sync.runtime_Semrelease", "sync/atomic.StoreUint32"], unfollowed := true, recurses := true, named := ["gimlet/chars.ranges", "unicode/utf8.first", "unicode/utf8.acceptRanges", "internal/bytealg.MaxLen"], loops := true, apart := false, laid := [("unicode/utf8.acceptRanges", laid_unicode_utf8_acceptRanges), ("gimlet/chars.ranges", laid_gimlet_chars_ranges), ("unicode/utf8.first", laid_unicode_utf8_first)] }
def HalfToldSaid : Prop := halfToldRow.holds Tryz.pinned (OpenSpec.ofChange halfToldSpec)

/-- ITS FALSE NEIGHBOUR: 'it returns false'. Refute it at one input. -/
def halfToldWrong : ChangeSpec := { name := "halfTold", fn := fun _ => fun
  | [d1, d2] => { results := [.lit (.bool false)], args := [d1, d2] }
  | _ => none }
def HalfToldWrongFalsely : Prop := halfToldRow.holds Tryz.pinned (OpenSpec.ofChange halfToldWrong)

/-- 'gimletlaw15.HalfStays': WHATEVER THE INPUT: true; the input reads as it did. -/
def halfStaysSpec : ChangeSpec := { name := "halfStays", fn := fun _ => fun
  | [d1, d2] => { results := [.lit (.bool true)], args := [d1, d2] }
  | _ => none }
def halfStaysRow : OpenClaim := { program := "ytgjokdngbocehaagreatdoor", sum := "8d30312315ad8235432a7ef021f26d045bbea9e1a1cb54b82474f007d61584e3", func := "gimlet/gimletlaw15.HalfStays", spec := "halfStays", inPlace := ["internal/bytealg.IndexByteString", "internal/bytealg.IndexString", "internal/abi.NoEscape", "sync/atomic.LoadUint32", "(*internal/sync.Mutex).Lock", "internal/race.Disable", "sync/atomic.CompareAndSwapInt32", "internal/race.Enable", "internal/race.Acquire", "(*internal/sync.Mutex).lockSlow", "internal/sync.runtime_canSpin", "internal/sync.runtime_doSpin", "internal/sync.throw", "internal/sync.runtime_nanotime", "internal/sync.runtime_SemacquireMutex", "sync/atomic.AddInt32", "(*internal/sync.Mutex).Unlock", "internal/race.ReleaseMerge", "(*internal/sync.Mutex).unlockSlow", "internal/sync.fatal", "internal/sync.runtime_Semrelease", "sync/atomic.StoreUint32"], unfollowed := true, recurses := true, named := ["gimlet/chars.ranges", "unicode/utf8.first", "unicode/utf8.acceptRanges", "internal/bytealg.MaxLen"], loops := true, apart := false, laid := [("unicode/utf8.acceptRanges", laid_unicode_utf8_acceptRanges), ("gimlet/chars.ranges", laid_gimlet_chars_ranges), ("unicode/utf8.first", laid_unicode_utf8_first)] }
def HalfStaysSaid : Prop := halfStaysRow.holds Tryz.pinned (OpenSpec.ofChange halfStaysSpec)

/-- ITS FALSE NEIGHBOUR: 'it returns false'. Refute it at one input. -/
def halfStaysWrong : ChangeSpec := { name := "halfStays", fn := fun _ => fun
  | [d1, d2] => { results := [.lit (.bool false)], args := [d1, d2] }
  | _ => none }
def HalfStaysWrongFalsely : Prop := halfStaysRow.holds Tryz.pinned (OpenSpec.ofChange halfStaysWrong)

/-- 'gimletlaw15.HalfWhole': WHATEVER THE INPUT: true; the input reads as it did. -/
def halfWholeSpec : ChangeSpec := { name := "halfWhole", fn := fun _ => fun
  | [d1, d2] => { results := [.lit (.bool true)], args := [d1, d2] }
  | _ => none }
def halfWholeRow : OpenClaim := { program := "ytgjokdngbocehaagreatdoor", sum := "8d30312315ad8235432a7ef021f26d045bbea9e1a1cb54b82474f007d61584e3", func := "gimlet/gimletlaw15.HalfWhole", spec := "halfWhole", inPlace := ["internal/bytealg.IndexByteString", "internal/bytealg.IndexString", "internal/abi.NoEscape", "sync/atomic.LoadUint32", "(*internal/sync.Mutex).Lock", "internal/race.Disable", "sync/atomic.CompareAndSwapInt32", "internal/race.Enable", "internal/race.Acquire", "(*internal/sync.Mutex).lockSlow", "internal/sync.runtime_canSpin", "internal/sync.runtime_doSpin", "internal/sync.throw", "internal/sync.runtime_nanotime", "internal/sync.runtime_SemacquireMutex", "sync/atomic.AddInt32", "(*internal/sync.Mutex).Unlock", "internal/race.ReleaseMerge", "(*internal/sync.Mutex).unlockSlow", "internal/sync.fatal", "internal/sync.runtime_Semrelease", "sync/atomic.StoreUint32"], unfollowed := true, recurses := true, named := ["gimlet/chars.ranges", "unicode/utf8.first", "unicode/utf8.acceptRanges", "internal/bytealg.MaxLen"], loops := true, apart := false, laid := [("unicode/utf8.acceptRanges", laid_unicode_utf8_acceptRanges), ("gimlet/chars.ranges", laid_gimlet_chars_ranges), ("unicode/utf8.first", laid_unicode_utf8_first)] }
def HalfWholeSaid : Prop := halfWholeRow.holds Tryz.pinned (OpenSpec.ofChange halfWholeSpec)

/-- ITS FALSE NEIGHBOUR: 'it returns false'. Refute it at one input. -/
def halfWholeWrong : ChangeSpec := { name := "halfWhole", fn := fun _ => fun
  | [d1, d2] => { results := [.lit (.bool false)], args := [d1, d2] }
  | _ => none }
def HalfWholeWrongFalsely : Prop := halfWholeRow.holds Tryz.pinned (OpenSpec.ofChange halfWholeWrong)

/- THE SECOND FORM. 'bulk': how many values and letters a reading holds, each counted each time it is reached (what is shared counts as often as it is met; a slice's spare places count too). A statement '..UptoSaid' is the law's where the arguments, and the package variables that the reading takes, are together of bulk at most 1048576: NARROWER than '..Said'. Prove '..Said' where nothing that the law and all that it calls make is longer than what came in: it says more and counts as full. Else prove '..UptoSaid'. A law counts once. -/
mutual
def uptoBulk {H : Type} : DataW H → Nat
  | .lit (.string bytes) => bytes.length + 1
  | .lit _ => 1
  | .nil => 1
  | .ptr d => uptoBulk d + 1
  | .slice elems spare => uptoBulkAll elems + uptoBulkAll spare + 1
  | .agg parts => uptoBulkAll parts + 1
  | .iface _ d => uptoBulk d + 1
  | .map entries => uptoBulkEntries entries + 1
  | .held _ => 1
def uptoBulkAll {H : Type} : List (DataW H) → Nat
  | [] => 0
  | d :: r => uptoBulk d + uptoBulkAll r
def uptoBulkEntries {H : Type} : List (Lit × DataW H) → Nat
  | [] => 0
  | x :: r => uptoBulkEntry x + uptoBulkEntries r
def uptoBulkEntry {H : Type} : Lit × DataW H → Nat
  | (.string bytes, d) => bytes.length + uptoBulk d + 1
  | (_, d) => uptoBulk d + 1
 end
def uptoSmall : (H : Type) → List (DataW H) → Bool := fun _ ds => decide (uptoBulkAll ds ≤ 1048576)
def OpenSpec.upto (s : _root_.Go.ChangeSpec) : _root_.Go.OpenSpec := { _root_.Go.OpenSpec.ofChange s with cond := some uptoSmall }

/-- 'gimletlaw15.HalfVerdicts', WHERE WHAT IT READS IS OF BULK AT MOST 1048576: true; the input reads as it did. -/
def halfVerdictsUptoRow : OpenClaim := { program := "ytgjokdngbocehaagreatdoor", sum := "8d30312315ad8235432a7ef021f26d045bbea9e1a1cb54b82474f007d61584e3", func := "gimlet/gimletlaw15.HalfVerdicts", spec := "halfVerdicts", inPlace := ["internal/bytealg.IndexByteString", "internal/bytealg.IndexString"], unfollowed := true, recurses := true, named := ["gimlet/chars.ranges", "unicode/utf8.first", "unicode/utf8.acceptRanges", "internal/bytealg.MaxLen"], loops := true, apart := false, laid := [("unicode/utf8.acceptRanges", laid_unicode_utf8_acceptRanges), ("gimlet/chars.ranges", laid_gimlet_chars_ranges), ("unicode/utf8.first", laid_unicode_utf8_first)], narrowed := true }
def HalfVerdictsUptoSaid : Prop := halfVerdictsUptoRow.holds Tryz.pinned (OpenSpec.upto halfVerdictsSpec)

/-- 'gimletlaw15.HalfHolds', WHERE WHAT IT READS IS OF BULK AT MOST 1048576: true; the input reads as it did. -/
def halfHoldsUptoRow : OpenClaim := { program := "ytgjokdngbocehaagreatdoor", sum := "8d30312315ad8235432a7ef021f26d045bbea9e1a1cb54b82474f007d61584e3", func := "gimlet/gimletlaw15.HalfHolds", spec := "halfHolds", inPlace := ["internal/bytealg.IndexByteString", "internal/bytealg.IndexString"], unfollowed := true, recurses := true, named := ["gimlet/chars.ranges", "unicode/utf8.first", "unicode/utf8.acceptRanges", "internal/bytealg.MaxLen"], loops := true, apart := false, laid := [("unicode/utf8.acceptRanges", laid_unicode_utf8_acceptRanges), ("gimlet/chars.ranges", laid_gimlet_chars_ranges), ("unicode/utf8.first", laid_unicode_utf8_first)], narrowed := true }
def HalfHoldsUptoSaid : Prop := halfHoldsUptoRow.holds Tryz.pinned (OpenSpec.upto halfHoldsSpec)

/-- 'gimletlaw15.HalfTold', WHERE WHAT IT READS IS OF BULK AT MOST 1048576: true; the input reads as it did. -/
def halfToldUptoRow : OpenClaim := { program := "ytgjokdngbocehaagreatdoor", sum := "8d30312315ad8235432a7ef021f26d045bbea9e1a1cb54b82474f007d61584e3", func := "gimlet/gimletlaw15.HalfTold", spec := "halfTold", inPlace := ["internal/bytealg.IndexByteString", "internal/bytealg.IndexString", "internal/abi.NoEscape", "sync/atomic.LoadUint32", "(*internal/sync.Mutex).Lock", "internal/race.Disable", "sync/atomic.CompareAndSwapInt32", "internal/race.Enable", "internal/race.Acquire", "(*internal/sync.Mutex).lockSlow", "internal/sync.runtime_canSpin", "internal/sync.runtime_doSpin", "internal/sync.throw", "internal/sync.runtime_nanotime", "internal/sync.runtime_SemacquireMutex", "sync/atomic.AddInt32", "(*internal/sync.Mutex).Unlock", "internal/race.ReleaseMerge", "(*internal/sync.Mutex).unlockSlow", "internal/sync.fatal", "internal/sync.runtime_Semrelease", "sync/atomic.StoreUint32"], unfollowed := true, recurses := true, named := ["gimlet/chars.ranges", "unicode/utf8.first", "unicode/utf8.acceptRanges", "internal/bytealg.MaxLen"], loops := true, apart := false, laid := [("unicode/utf8.acceptRanges", laid_unicode_utf8_acceptRanges), ("gimlet/chars.ranges", laid_gimlet_chars_ranges), ("unicode/utf8.first", laid_unicode_utf8_first)], narrowed := true }
def HalfToldUptoSaid : Prop := halfToldUptoRow.holds Tryz.pinned (OpenSpec.upto halfToldSpec)

/-- 'gimletlaw15.HalfStays', WHERE WHAT IT READS IS OF BULK AT MOST 1048576: true; the input reads as it did. -/
def halfStaysUptoRow : OpenClaim := { program := "ytgjokdngbocehaagreatdoor", sum := "8d30312315ad8235432a7ef021f26d045bbea9e1a1cb54b82474f007d61584e3", func := "gimlet/gimletlaw15.HalfStays", spec := "halfStays", inPlace := ["internal/bytealg.IndexByteString", "internal/bytealg.IndexString", "internal/abi.NoEscape", "sync/atomic.LoadUint32", "(*internal/sync.Mutex).Lock", "internal/race.Disable", "sync/atomic.CompareAndSwapInt32", "internal/race.Enable", "internal/race.Acquire", "(*internal/sync.Mutex).lockSlow", "internal/sync.runtime_canSpin", "internal/sync.runtime_doSpin", "internal/sync.throw", "internal/sync.runtime_nanotime", "internal/sync.runtime_SemacquireMutex", "sync/atomic.AddInt32", "(*internal/sync.Mutex).Unlock", "internal/race.ReleaseMerge", "(*internal/sync.Mutex).unlockSlow", "internal/sync.fatal", "internal/sync.runtime_Semrelease", "sync/atomic.StoreUint32"], unfollowed := true, recurses := true, named := ["gimlet/chars.ranges", "unicode/utf8.first", "unicode/utf8.acceptRanges", "internal/bytealg.MaxLen"], loops := true, apart := false, laid := [("unicode/utf8.acceptRanges", laid_unicode_utf8_acceptRanges), ("gimlet/chars.ranges", laid_gimlet_chars_ranges), ("unicode/utf8.first", laid_unicode_utf8_first)], narrowed := true }
def HalfStaysUptoSaid : Prop := halfStaysUptoRow.holds Tryz.pinned (OpenSpec.upto halfStaysSpec)

/-- 'gimletlaw15.HalfWhole', WHERE WHAT IT READS IS OF BULK AT MOST 1048576: true; the input reads as it did. -/
def halfWholeUptoRow : OpenClaim := { program := "ytgjokdngbocehaagreatdoor", sum := "8d30312315ad8235432a7ef021f26d045bbea9e1a1cb54b82474f007d61584e3", func := "gimlet/gimletlaw15.HalfWhole", spec := "halfWhole", inPlace := ["internal/bytealg.IndexByteString", "internal/bytealg.IndexString", "internal/abi.NoEscape", "sync/atomic.LoadUint32", "(*internal/sync.Mutex).Lock", "internal/race.Disable", "sync/atomic.CompareAndSwapInt32", "internal/race.Enable", "internal/race.Acquire", "(*internal/sync.Mutex).lockSlow", "internal/sync.runtime_canSpin", "internal/sync.runtime_doSpin", "internal/sync.throw", "internal/sync.runtime_nanotime", "internal/sync.runtime_SemacquireMutex", "sync/atomic.AddInt32", "(*internal/sync.Mutex).Unlock", "internal/race.ReleaseMerge", "(*internal/sync.Mutex).unlockSlow", "internal/sync.fatal", "internal/sync.runtime_Semrelease", "sync/atomic.StoreUint32"], unfollowed := true, recurses := true, named := ["gimlet/chars.ranges", "unicode/utf8.first", "unicode/utf8.acceptRanges", "internal/bytealg.MaxLen"], loops := true, apart := false, laid := [("unicode/utf8.acceptRanges", laid_unicode_utf8_acceptRanges), ("gimlet/chars.ranges", laid_gimlet_chars_ranges), ("unicode/utf8.first", laid_unicode_utf8_first)], narrowed := true }
def HalfWholeUptoSaid : Prop := halfWholeUptoRow.holds Tryz.pinned (OpenSpec.upto halfWholeSpec)

end Rows
end Go.Proofs.YtgjokdngbocehaaGreatDoor
