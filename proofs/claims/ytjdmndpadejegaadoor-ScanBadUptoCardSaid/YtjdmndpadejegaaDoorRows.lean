/-
  NARROWER THAN 'FOR EVERY INPUT', by the rows' own cells (each row's printed sentence says how): ScanAll: laid · ScanCuts: laid · ScanBad: laid · ScanNil: laid · ScanPlaces: laid.
  DERIVED. THE GIVEN ROWS OF THIS SEAT. 5 by the template 'for every input the law returns true; each argument reads behind the call as it read before'; 0 by the template 'total and deterministic' (their statements: YtjdmndpadejegaaDoorTotals.lean).
  GIVEN WITH THE SEED: the statements are not yours to turn. If you find one false, say at which input.
  Laid BY PROGRAM, IN A SANDBOX (cutbox-rows.mjs): the forced cells as the released guide's own fill.sh prints them over the translation a904ef8546b62799… (all of the seat's roots in one cut). By AI agents, Wed Nov 11 2026. No macro, syntax, notation, axiom, sorry.
-/
import Derived.Test.YtjdmndpadejegaaDoorChecked
import GoSem.PinnedTables
import GoSem.Claim
import GoSem.ClaimJoined
import GoSem.ClaimMapViews
import Derived.JoinedTies
import Derived.KernelRfl
namespace Go.Proofs.YtjdmndpadejegaaDoor
/- THE CELL 'sum', in the pinned program and in every row, IS THE sha256 OF THE DUMP (.gsa) THAT YtjdmndpadejegaaDoorProg.lean LOADS. Nothing in Lean hashes anything: it is a label: what it is worth is what the hold of that sum in a sandbox is worth. -/
noncomputable def Tryd.pinned : Pinned := { name := "ytjdmndpadejegaadoor", sum := "a904ef8546b62799d1ca2098459145f12e209fab53ba16c8661da3b10cdd0644", checked := Tryd.checked }
namespace Rows
def none {H : Type} : Left H := { results := [], args := [] }

/- WHAT THE LISTED PACKAGE-LEVEL VARIABLES READ AS WHEN THE CALL BEGINS. Each datum BY PROGRAM (the guide's laid-datum.mjs) off the statement by which the dump's own 'gosem.cut.vars' lays the variable. In a bare row this is a premise. The card (YtjdmndpadejegaaDoorCards.lean) ties it to the program's text. -/
def laid_unicode_utf8_acceptRanges {H : Type} : DataW H := .agg [.agg [.lit (.int .u8 128), .lit (.int .u8 191)], .agg [.lit (.int .u8 160), .lit (.int .u8 191)], .agg [.lit (.int .u8 128), .lit (.int .u8 159)], .agg [.lit (.int .u8 144), .lit (.int .u8 191)], .agg [.lit (.int .u8 128), .lit (.int .u8 143)], .agg [.lit (.int .u8 0), .lit (.int .u8 0)], .agg [.lit (.int .u8 0), .lit (.int .u8 0)], .agg [.lit (.int .u8 0), .lit (.int .u8 0)], .agg [.lit (.int .u8 0), .lit (.int .u8 0)], .agg [.lit (.int .u8 0), .lit (.int .u8 0)], .agg [.lit (.int .u8 0), .lit (.int .u8 0)], .agg [.lit (.int .u8 0), .lit (.int .u8 0)], .agg [.lit (.int .u8 0), .lit (.int .u8 0)], .agg [.lit (.int .u8 0), .lit (.int .u8 0)], .agg [.lit (.int .u8 0), .lit (.int .u8 0)], .agg [.lit (.int .u8 0), .lit (.int .u8 0)]]
def laid_gimlet_chars_ranges {H : Type} : DataW H := .agg [.slice [.agg [.lit (.int .i32 9), .lit (.int .i32 10)], .agg [.lit (.int .i32 13), .lit (.int .i32 13)], .agg [.lit (.int .i32 32), .lit (.int .i32 55295)], .agg [.lit (.int .i32 57344), .lit (.int .i32 65533)], .agg [.lit (.int .i32 65536), .lit (.int .i32 1114111)]] [], .slice [.agg [.lit (.int .i32 9), .lit (.int .i32 10)], .agg [.lit (.int .i32 13), .lit (.int .i32 13)], .agg [.lit (.int .i32 32), .lit (.int .i32 32)]] [], .slice [.agg [.lit (.int .i32 65), .lit (.int .i32 90)], .agg [.lit (.int .i32 95), .lit (.int .i32 95)], .agg [.lit (.int .i32 97), .lit (.int .i32 122)], .agg [.lit (.int .i32 192), .lit (.int .i32 214)], .agg [.lit (.int .i32 216), .lit (.int .i32 246)], .agg [.lit (.int .i32 248), .lit (.int .i32 767)], .agg [.lit (.int .i32 880), .lit (.int .i32 893)], .agg [.lit (.int .i32 895), .lit (.int .i32 8191)], .agg [.lit (.int .i32 8204), .lit (.int .i32 8205)], .agg [.lit (.int .i32 8304), .lit (.int .i32 8591)], .agg [.lit (.int .i32 11264), .lit (.int .i32 12271)], .agg [.lit (.int .i32 12289), .lit (.int .i32 55295)], .agg [.lit (.int .i32 63744), .lit (.int .i32 64975)], .agg [.lit (.int .i32 65008), .lit (.int .i32 65533)], .agg [.lit (.int .i32 65536), .lit (.int .i32 983039)]] [], .slice [.agg [.lit (.int .i32 45), .lit (.int .i32 46)], .agg [.lit (.int .i32 48), .lit (.int .i32 57)], .agg [.lit (.int .i32 65), .lit (.int .i32 90)], .agg [.lit (.int .i32 95), .lit (.int .i32 95)], .agg [.lit (.int .i32 97), .lit (.int .i32 122)], .agg [.lit (.int .i32 183), .lit (.int .i32 183)], .agg [.lit (.int .i32 192), .lit (.int .i32 214)], .agg [.lit (.int .i32 216), .lit (.int .i32 246)], .agg [.lit (.int .i32 248), .lit (.int .i32 893)], .agg [.lit (.int .i32 895), .lit (.int .i32 8191)], .agg [.lit (.int .i32 8204), .lit (.int .i32 8205)], .agg [.lit (.int .i32 8255), .lit (.int .i32 8256)], .agg [.lit (.int .i32 8304), .lit (.int .i32 8591)], .agg [.lit (.int .i32 11264), .lit (.int .i32 12271)], .agg [.lit (.int .i32 12289), .lit (.int .i32 55295)], .agg [.lit (.int .i32 63744), .lit (.int .i32 64975)], .agg [.lit (.int .i32 65008), .lit (.int .i32 65533)], .agg [.lit (.int .i32 65536), .lit (.int .i32 983039)]] [], .slice [.agg [.lit (.int .i32 48), .lit (.int .i32 57)]] [], .slice [.agg [.lit (.int .i32 48), .lit (.int .i32 57)], .agg [.lit (.int .i32 65), .lit (.int .i32 70)], .agg [.lit (.int .i32 97), .lit (.int .i32 102)]] []]
/-- One of Go's own tables, pinned by name: the form's constant. -/
def laid_unicode_utf8_first : DataW Unit := Go.Pinned.utf8First

/-- 'gimletlaw06.ScanAll': WHATEVER THE INPUT: true; the input reads as it did. -/
def scanAllSpec : ChangeSpec := { name := "scanAll", fn := fun _ => fun
  | [d] => { results := [.lit (.bool true)], args := [d] }
  | _ => none }
def scanAllRow : OpenClaim := { program := "ytjdmndpadejegaadoor", sum := "a904ef8546b62799d1ca2098459145f12e209fab53ba16c8661da3b10cdd0644", func := "gimlet/gimletlaw06.ScanAll", spec := "scanAll", unfollowed := true, recurses := true, named := ["gimlet/chars.ranges", "unicode/utf8.first", "unicode/utf8.acceptRanges"], apart := false, laid := [("unicode/utf8.acceptRanges", laid_unicode_utf8_acceptRanges), ("gimlet/chars.ranges", laid_gimlet_chars_ranges), ("unicode/utf8.first", laid_unicode_utf8_first)] }
def ScanAllSaid : Prop := scanAllRow.holds Tryd.pinned (OpenSpec.ofChange scanAllSpec)

/-- ITS FALSE NEIGHBOUR: 'it returns false'. Refute it at one input. -/
def scanAllWrong : ChangeSpec := { name := "scanAll", fn := fun _ => fun
  | [d] => { results := [.lit (.bool false)], args := [d] }
  | _ => none }
def ScanAllWrongFalsely : Prop := scanAllRow.holds Tryd.pinned (OpenSpec.ofChange scanAllWrong)

/-- 'gimletlaw06.ScanCuts': WHATEVER THE INPUT: true; the input reads as it did. -/
def scanCutsSpec : ChangeSpec := { name := "scanCuts", fn := fun _ => fun
  | [d] => { results := [.lit (.bool true)], args := [d] }
  | _ => none }
def scanCutsRow : OpenClaim := { program := "ytjdmndpadejegaadoor", sum := "a904ef8546b62799d1ca2098459145f12e209fab53ba16c8661da3b10cdd0644", func := "gimlet/gimletlaw06.ScanCuts", spec := "scanCuts", unfollowed := true, recurses := true, named := ["gimlet/chars.ranges", "unicode/utf8.first", "unicode/utf8.acceptRanges"], apart := false, laid := [("unicode/utf8.acceptRanges", laid_unicode_utf8_acceptRanges), ("gimlet/chars.ranges", laid_gimlet_chars_ranges), ("unicode/utf8.first", laid_unicode_utf8_first)] }
def ScanCutsSaid : Prop := scanCutsRow.holds Tryd.pinned (OpenSpec.ofChange scanCutsSpec)

/-- ITS FALSE NEIGHBOUR: 'it returns false'. Refute it at one input. -/
def scanCutsWrong : ChangeSpec := { name := "scanCuts", fn := fun _ => fun
  | [d] => { results := [.lit (.bool false)], args := [d] }
  | _ => none }
def ScanCutsWrongFalsely : Prop := scanCutsRow.holds Tryd.pinned (OpenSpec.ofChange scanCutsWrong)

/-- 'gimletlaw06.ScanBad': WHATEVER THE INPUT: true; the input reads as it did. -/
def scanBadSpec : ChangeSpec := { name := "scanBad", fn := fun _ => fun
  | [d1, d2] => { results := [.lit (.bool true)], args := [d1, d2] }
  | _ => none }
def scanBadRow : OpenClaim := { program := "ytjdmndpadejegaadoor", sum := "a904ef8546b62799d1ca2098459145f12e209fab53ba16c8661da3b10cdd0644", func := "gimlet/gimletlaw06.ScanBad", spec := "scanBad", unfollowed := true, recurses := true, named := ["gimlet/chars.ranges", "unicode/utf8.first", "unicode/utf8.acceptRanges"], apart := false, laid := [("unicode/utf8.acceptRanges", laid_unicode_utf8_acceptRanges), ("gimlet/chars.ranges", laid_gimlet_chars_ranges), ("unicode/utf8.first", laid_unicode_utf8_first)] }
def ScanBadSaid : Prop := scanBadRow.holds Tryd.pinned (OpenSpec.ofChange scanBadSpec)

/-- ITS FALSE NEIGHBOUR: 'it returns false'. Refute it at one input. -/
def scanBadWrong : ChangeSpec := { name := "scanBad", fn := fun _ => fun
  | [d1, d2] => { results := [.lit (.bool false)], args := [d1, d2] }
  | _ => none }
def ScanBadWrongFalsely : Prop := scanBadRow.holds Tryd.pinned (OpenSpec.ofChange scanBadWrong)

/-- 'gimletlaw06.ScanNil': WHATEVER THE INPUT: true; the input reads as it did. -/
def scanNilSpec : ChangeSpec := { name := "scanNil", fn := fun _ => fun
  | [d1, d2, d3] => { results := [.lit (.bool true)], args := [d1, d2, d3] }
  | _ => none }
def scanNilRow : OpenClaim := { program := "ytjdmndpadejegaadoor", sum := "a904ef8546b62799d1ca2098459145f12e209fab53ba16c8661da3b10cdd0644", func := "gimlet/gimletlaw06.ScanNil", spec := "scanNil", unfollowed := true, recurses := true, named := ["gimlet/chars.ranges", "unicode/utf8.first", "unicode/utf8.acceptRanges"], apart := false, laid := [("unicode/utf8.acceptRanges", laid_unicode_utf8_acceptRanges), ("gimlet/chars.ranges", laid_gimlet_chars_ranges), ("unicode/utf8.first", laid_unicode_utf8_first)] }
def ScanNilSaid : Prop := scanNilRow.holds Tryd.pinned (OpenSpec.ofChange scanNilSpec)

/-- ITS FALSE NEIGHBOUR: 'it returns false'. Refute it at one input. -/
def scanNilWrong : ChangeSpec := { name := "scanNil", fn := fun _ => fun
  | [d1, d2, d3] => { results := [.lit (.bool false)], args := [d1, d2, d3] }
  | _ => none }
def ScanNilWrongFalsely : Prop := scanNilRow.holds Tryd.pinned (OpenSpec.ofChange scanNilWrong)

/-- 'gimletlaw06.ScanPlaces': WHATEVER THE INPUT: true; the input reads as it did. -/
def scanPlacesSpec : ChangeSpec := { name := "scanPlaces", fn := fun _ => fun
  | [d] => { results := [.lit (.bool true)], args := [d] }
  | _ => none }
def scanPlacesRow : OpenClaim := { program := "ytjdmndpadejegaadoor", sum := "a904ef8546b62799d1ca2098459145f12e209fab53ba16c8661da3b10cdd0644", func := "gimlet/gimletlaw06.ScanPlaces", spec := "scanPlaces", unfollowed := true, recurses := true, named := ["gimlet/chars.ranges", "unicode/utf8.first", "unicode/utf8.acceptRanges"], apart := false, laid := [("unicode/utf8.acceptRanges", laid_unicode_utf8_acceptRanges), ("gimlet/chars.ranges", laid_gimlet_chars_ranges), ("unicode/utf8.first", laid_unicode_utf8_first)] }
def ScanPlacesSaid : Prop := scanPlacesRow.holds Tryd.pinned (OpenSpec.ofChange scanPlacesSpec)

/-- ITS FALSE NEIGHBOUR: 'it returns false'. Refute it at one input. -/
def scanPlacesWrong : ChangeSpec := { name := "scanPlaces", fn := fun _ => fun
  | [d] => { results := [.lit (.bool false)], args := [d] }
  | _ => none }
def ScanPlacesWrongFalsely : Prop := scanPlacesRow.holds Tryd.pinned (OpenSpec.ofChange scanPlacesWrong)

/- THE SECOND FORM. 'bulk': how many values and letters a reading holds, each counted each time it is reached (what is shared counts as often as it is met; a slice's spare places count too). A statement '..UptoSaid' is the law's where the arguments, and the package variables that the reading takes, are together of bulk at most 1048576: NARROWER than '..Said'. Prove '..Said' where nothing that the law and all that it calls make is longer than what came in: it says more and counts as full. Else prove '..UptoSaid'. A law counts once. -/
mutual
def uptoBulk {H : Type} : DataW H → Nat
  | .lit (.string bytes) => bytes.length + 1
  | .lit _ => 1
  | .nil => 1
  | .ptr d => uptoBulk d + 1
  | .slice elems spare => uptoBulkAll elems + uptoBulkAll spare + 1
  | .agg parts => uptoBulkAll parts + 1
  | .iface _ d => uptoBulk d + 1
  | .map entries => uptoBulkEntries entries + 1
  | .held _ => 1
def uptoBulkAll {H : Type} : List (DataW H) → Nat
  | [] => 0
  | d :: r => uptoBulk d + uptoBulkAll r
def uptoBulkEntries {H : Type} : List (Lit × DataW H) → Nat
  | [] => 0
  | x :: r => uptoBulkEntry x + uptoBulkEntries r
def uptoBulkEntry {H : Type} : Lit × DataW H → Nat
  | (.string bytes, d) => bytes.length + uptoBulk d + 1
  | (_, d) => uptoBulk d + 1
 end
def uptoSmall : (H : Type) → List (DataW H) → Bool := fun _ ds => decide (uptoBulkAll ds ≤ 1048576)
def OpenSpec.upto (s : _root_.Go.ChangeSpec) : _root_.Go.OpenSpec := { _root_.Go.OpenSpec.ofChange s with cond := some uptoSmall }

/-- 'gimletlaw06.ScanAll', WHERE WHAT IT READS IS OF BULK AT MOST 1048576: true; the input reads as it did. -/
def scanAllUptoRow : OpenClaim := { program := "ytjdmndpadejegaadoor", sum := "a904ef8546b62799d1ca2098459145f12e209fab53ba16c8661da3b10cdd0644", func := "gimlet/gimletlaw06.ScanAll", spec := "scanAll", unfollowed := true, recurses := true, named := ["gimlet/chars.ranges", "unicode/utf8.first", "unicode/utf8.acceptRanges"], apart := false, laid := [("unicode/utf8.acceptRanges", laid_unicode_utf8_acceptRanges), ("gimlet/chars.ranges", laid_gimlet_chars_ranges), ("unicode/utf8.first", laid_unicode_utf8_first)], narrowed := true }
def ScanAllUptoSaid : Prop := scanAllUptoRow.holds Tryd.pinned (OpenSpec.upto scanAllSpec)

/-- 'gimletlaw06.ScanCuts', WHERE WHAT IT READS IS OF BULK AT MOST 1048576: true; the input reads as it did. -/
def scanCutsUptoRow : OpenClaim := { program := "ytjdmndpadejegaadoor", sum := "a904ef8546b62799d1ca2098459145f12e209fab53ba16c8661da3b10cdd0644", func := "gimlet/gimletlaw06.ScanCuts", spec := "scanCuts", unfollowed := true, recurses := true, named := ["gimlet/chars.ranges", "unicode/utf8.first", "unicode/utf8.acceptRanges"], apart := false, laid := [("unicode/utf8.acceptRanges", laid_unicode_utf8_acceptRanges), ("gimlet/chars.ranges", laid_gimlet_chars_ranges), ("unicode/utf8.first", laid_unicode_utf8_first)], narrowed := true }
def ScanCutsUptoSaid : Prop := scanCutsUptoRow.holds Tryd.pinned (OpenSpec.upto scanCutsSpec)

/-- 'gimletlaw06.ScanBad', WHERE WHAT IT READS IS OF BULK AT MOST 1048576: true; the input reads as it did. -/
def scanBadUptoRow : OpenClaim := { program := "ytjdmndpadejegaadoor", sum := "a904ef8546b62799d1ca2098459145f12e209fab53ba16c8661da3b10cdd0644", func := "gimlet/gimletlaw06.ScanBad", spec := "scanBad", unfollowed := true, recurses := true, named := ["gimlet/chars.ranges", "unicode/utf8.first", "unicode/utf8.acceptRanges"], apart := false, laid := [("unicode/utf8.acceptRanges", laid_unicode_utf8_acceptRanges), ("gimlet/chars.ranges", laid_gimlet_chars_ranges), ("unicode/utf8.first", laid_unicode_utf8_first)], narrowed := true }
def ScanBadUptoSaid : Prop := scanBadUptoRow.holds Tryd.pinned (OpenSpec.upto scanBadSpec)

/-- 'gimletlaw06.ScanNil', WHERE WHAT IT READS IS OF BULK AT MOST 1048576: true; the input reads as it did. -/
def scanNilUptoRow : OpenClaim := { program := "ytjdmndpadejegaadoor", sum := "a904ef8546b62799d1ca2098459145f12e209fab53ba16c8661da3b10cdd0644", func := "gimlet/gimletlaw06.ScanNil", spec := "scanNil", unfollowed := true, recurses := true, named := ["gimlet/chars.ranges", "unicode/utf8.first", "unicode/utf8.acceptRanges"], apart := false, laid := [("unicode/utf8.acceptRanges", laid_unicode_utf8_acceptRanges), ("gimlet/chars.ranges", laid_gimlet_chars_ranges), ("unicode/utf8.first", laid_unicode_utf8_first)], narrowed := true }
def ScanNilUptoSaid : Prop := scanNilUptoRow.holds Tryd.pinned (OpenSpec.upto scanNilSpec)

/-- 'gimletlaw06.ScanPlaces', WHERE WHAT IT READS IS OF BULK AT MOST 1048576: true; the input reads as it did. -/
def scanPlacesUptoRow : OpenClaim := { program := "ytjdmndpadejegaadoor", sum := "a904ef8546b62799d1ca2098459145f12e209fab53ba16c8661da3b10cdd0644", func := "gimlet/gimletlaw06.ScanPlaces", spec := "scanPlaces", unfollowed := true, recurses := true, named := ["gimlet/chars.ranges", "unicode/utf8.first", "unicode/utf8.acceptRanges"], apart := false, laid := [("unicode/utf8.acceptRanges", laid_unicode_utf8_acceptRanges), ("gimlet/chars.ranges", laid_gimlet_chars_ranges), ("unicode/utf8.first", laid_unicode_utf8_first)], narrowed := true }
def ScanPlacesUptoSaid : Prop := scanPlacesUptoRow.holds Tryd.pinned (OpenSpec.upto scanPlacesSpec)

end Rows
end Go.Proofs.YtjdmndpadejegaaDoor
