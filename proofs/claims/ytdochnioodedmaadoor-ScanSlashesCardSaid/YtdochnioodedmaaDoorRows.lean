/-
  NARROWER THAN 'FOR EVERY INPUT', by the rows' own cells (each row's printed sentence says how): ScanOperands: laid · ScanPlaces: laid · ScanJoins: laid · ScanTexts: laid · ScanMarks: laid · ScanSlashes: laid.
  DERIVED. THE GIVEN ROWS OF THIS SEAT. 6 by the template 'for every input the law returns true; each argument reads behind the call as it read before'; 0 by the template 'total and deterministic' (their statements: YtdochnioodedmaaDoorTotals.lean).
  GIVEN WITH THE SEED: the statements are not yours to turn. If you find one false, say at which input.
  Laid BY PROGRAM, IN A SANDBOX (cutbox-rows.mjs): the forced cells as the released guide's own fill.sh prints them over the translation f4d996bfbdd01ae4… (all of the seat's roots in one cut). By AI agents, Wed Nov 11 2026. No macro, syntax, notation, axiom, sorry.
-/
import Derived.Test.YtdochnioodedmaaDoorChecked
import GoSem.PinnedTables
import GoSem.Claim
import GoSem.ClaimJoined
import GoSem.ClaimMapViews
import Derived.JoinedTies
import Derived.KernelRfl
namespace Go.Proofs.YtdochnioodedmaaDoor
/- THE CELL 'sum', in the pinned program and in every row, IS THE sha256 OF THE DUMP (.gsa) THAT YtdochnioodedmaaDoorProg.lean LOADS. Nothing in Lean hashes anything: it is a label: what it is worth is what the hold of that sum in a sandbox is worth. -/
noncomputable def Tryd.pinned : Pinned := { name := "ytdochnioodedmaadoor", sum := "f4d996bfbdd01ae4c5a816edd73d6eefa1f4b7a2b91f1846ad71e2cc3593866e", checked := Tryd.checked }
namespace Rows
def none {H : Type} : Left H := { results := [], args := [] }

/- WHAT THE LISTED PACKAGE-LEVEL VARIABLES READ AS WHEN THE CALL BEGINS. Each datum BY PROGRAM (the guide's laid-datum.mjs) off the statement by which the dump's own 'gosem.cut.vars' lays the variable. In a bare row this is a premise. The card (YtdochnioodedmaaDoorCards.lean) ties it to the program's text. -/
def laid_unicode_utf8_acceptRanges {H : Type} : DataW H := .agg [.agg [.lit (.int .u8 128), .lit (.int .u8 191)], .agg [.lit (.int .u8 160), .lit (.int .u8 191)], .agg [.lit (.int .u8 128), .lit (.int .u8 159)], .agg [.lit (.int .u8 144), .lit (.int .u8 191)], .agg [.lit (.int .u8 128), .lit (.int .u8 143)], .agg [.lit (.int .u8 0), .lit (.int .u8 0)], .agg [.lit (.int .u8 0), .lit (.int .u8 0)], .agg [.lit (.int .u8 0), .lit (.int .u8 0)], .agg [.lit (.int .u8 0), .lit (.int .u8 0)], .agg [.lit (.int .u8 0), .lit (.int .u8 0)], .agg [.lit (.int .u8 0), .lit (.int .u8 0)], .agg [.lit (.int .u8 0), .lit (.int .u8 0)], .agg [.lit (.int .u8 0), .lit (.int .u8 0)], .agg [.lit (.int .u8 0), .lit (.int .u8 0)], .agg [.lit (.int .u8 0), .lit (.int .u8 0)], .agg [.lit (.int .u8 0), .lit (.int .u8 0)]]
/-- One of Go's own tables, pinned by name: the form's constant. -/
def laid_unicode_utf8_first : DataW Unit := Go.Pinned.utf8First

/-- 'dragomanlaw15.ScanOperands': WHATEVER THE INPUT: true; the input reads as it did. -/
def scanOperandsSpec : ChangeSpec := { name := "scanOperands", fn := fun _ => fun
  | [d] => { results := [.lit (.bool true)], args := [d] }
  | _ => none }
def scanOperandsRow : OpenClaim := { program := "ytdochnioodedmaadoor", sum := "f4d996bfbdd01ae4c5a816edd73d6eefa1f4b7a2b91f1846ad71e2cc3593866e", func := "dragoman/dragomanlaw15.ScanOperands", spec := "scanOperands", inPlace := ["math/bits.Add64", "internal/bytealg.IndexByteString", "internal/bytealg.CountString", "internal/bytealg.IndexString"], unfollowed := true, recurses := true, named := ["unicode/utf8.first", "unicode/utf8.acceptRanges", "internal/bytealg.MaxLen"], apart := false, laid := [("unicode/utf8.acceptRanges", laid_unicode_utf8_acceptRanges), ("unicode/utf8.first", laid_unicode_utf8_first)] }
def ScanOperandsSaid : Prop := scanOperandsRow.holds Tryd.pinned (OpenSpec.ofChange scanOperandsSpec)

/-- ITS FALSE NEIGHBOUR: 'it returns false'. Refute it at one input. -/
def scanOperandsWrong : ChangeSpec := { name := "scanOperands", fn := fun _ => fun
  | [d] => { results := [.lit (.bool false)], args := [d] }
  | _ => none }
def ScanOperandsWrongFalsely : Prop := scanOperandsRow.holds Tryd.pinned (OpenSpec.ofChange scanOperandsWrong)

/-- 'dragomanlaw15.ScanPlaces': WHATEVER THE INPUT: true; the input reads as it did. -/
def scanPlacesSpec : ChangeSpec := { name := "scanPlaces", fn := fun _ => fun
  | [d] => { results := [.lit (.bool true)], args := [d] }
  | _ => none }
def scanPlacesRow : OpenClaim := { program := "ytdochnioodedmaadoor", sum := "f4d996bfbdd01ae4c5a816edd73d6eefa1f4b7a2b91f1846ad71e2cc3593866e", func := "dragoman/dragomanlaw15.ScanPlaces", spec := "scanPlaces", inPlace := ["math/bits.Add64", "internal/bytealg.IndexByteString", "internal/bytealg.CountString", "internal/bytealg.IndexString"], unfollowed := true, recurses := true, named := ["unicode/utf8.first", "unicode/utf8.acceptRanges", "internal/bytealg.MaxLen"], apart := false, laid := [("unicode/utf8.acceptRanges", laid_unicode_utf8_acceptRanges), ("unicode/utf8.first", laid_unicode_utf8_first)] }
def ScanPlacesSaid : Prop := scanPlacesRow.holds Tryd.pinned (OpenSpec.ofChange scanPlacesSpec)

/-- ITS FALSE NEIGHBOUR: 'it returns false'. Refute it at one input. -/
def scanPlacesWrong : ChangeSpec := { name := "scanPlaces", fn := fun _ => fun
  | [d] => { results := [.lit (.bool false)], args := [d] }
  | _ => none }
def ScanPlacesWrongFalsely : Prop := scanPlacesRow.holds Tryd.pinned (OpenSpec.ofChange scanPlacesWrong)

/-- 'dragomanlaw15.ScanJoins': WHATEVER THE INPUT: true; the input reads as it did. -/
def scanJoinsSpec : ChangeSpec := { name := "scanJoins", fn := fun _ => fun
  | [d1, d2] => { results := [.lit (.bool true)], args := [d1, d2] }
  | _ => none }
def scanJoinsRow : OpenClaim := { program := "ytdochnioodedmaadoor", sum := "f4d996bfbdd01ae4c5a816edd73d6eefa1f4b7a2b91f1846ad71e2cc3593866e", func := "dragoman/dragomanlaw15.ScanJoins", spec := "scanJoins", inPlace := ["math/bits.Add64", "internal/bytealg.IndexByteString", "internal/bytealg.CountString", "internal/bytealg.IndexString"], unfollowed := true, recurses := true, named := ["unicode/utf8.first", "unicode/utf8.acceptRanges", "internal/bytealg.MaxLen"], apart := false, laid := [("unicode/utf8.acceptRanges", laid_unicode_utf8_acceptRanges), ("unicode/utf8.first", laid_unicode_utf8_first)] }
def ScanJoinsSaid : Prop := scanJoinsRow.holds Tryd.pinned (OpenSpec.ofChange scanJoinsSpec)

/-- ITS FALSE NEIGHBOUR: 'it returns false'. Refute it at one input. -/
def scanJoinsWrong : ChangeSpec := { name := "scanJoins", fn := fun _ => fun
  | [d1, d2] => { results := [.lit (.bool false)], args := [d1, d2] }
  | _ => none }
def ScanJoinsWrongFalsely : Prop := scanJoinsRow.holds Tryd.pinned (OpenSpec.ofChange scanJoinsWrong)

/-- 'dragomanlaw15.ScanTexts': WHATEVER THE INPUT: true; the input reads as it did. -/
def scanTextsSpec : ChangeSpec := { name := "scanTexts", fn := fun _ => fun
  | [d] => { results := [.lit (.bool true)], args := [d] }
  | _ => none }
def scanTextsRow : OpenClaim := { program := "ytdochnioodedmaadoor", sum := "f4d996bfbdd01ae4c5a816edd73d6eefa1f4b7a2b91f1846ad71e2cc3593866e", func := "dragoman/dragomanlaw15.ScanTexts", spec := "scanTexts", inPlace := ["math/bits.Add64", "internal/bytealg.IndexByteString", "internal/bytealg.CountString", "internal/bytealg.IndexString"], unfollowed := true, recurses := true, named := ["unicode/utf8.first", "unicode/utf8.acceptRanges", "internal/bytealg.MaxLen"], apart := false, laid := [("unicode/utf8.acceptRanges", laid_unicode_utf8_acceptRanges), ("unicode/utf8.first", laid_unicode_utf8_first)] }
def ScanTextsSaid : Prop := scanTextsRow.holds Tryd.pinned (OpenSpec.ofChange scanTextsSpec)

/-- ITS FALSE NEIGHBOUR: 'it returns false'. Refute it at one input. -/
def scanTextsWrong : ChangeSpec := { name := "scanTexts", fn := fun _ => fun
  | [d] => { results := [.lit (.bool false)], args := [d] }
  | _ => none }
def ScanTextsWrongFalsely : Prop := scanTextsRow.holds Tryd.pinned (OpenSpec.ofChange scanTextsWrong)

/-- 'dragomanlaw15.ScanMarks': WHATEVER THE INPUT: true; the input reads as it did. -/
def scanMarksSpec : ChangeSpec := { name := "scanMarks", fn := fun _ => fun
  | [d] => { results := [.lit (.bool true)], args := [d] }
  | _ => none }
def scanMarksRow : OpenClaim := { program := "ytdochnioodedmaadoor", sum := "f4d996bfbdd01ae4c5a816edd73d6eefa1f4b7a2b91f1846ad71e2cc3593866e", func := "dragoman/dragomanlaw15.ScanMarks", spec := "scanMarks", inPlace := ["math/bits.Add64", "internal/bytealg.IndexByteString", "internal/bytealg.CountString", "internal/bytealg.IndexString"], unfollowed := true, recurses := true, named := ["unicode/utf8.first", "unicode/utf8.acceptRanges", "internal/bytealg.MaxLen"], apart := false, laid := [("unicode/utf8.acceptRanges", laid_unicode_utf8_acceptRanges), ("unicode/utf8.first", laid_unicode_utf8_first)] }
def ScanMarksSaid : Prop := scanMarksRow.holds Tryd.pinned (OpenSpec.ofChange scanMarksSpec)

/-- ITS FALSE NEIGHBOUR: 'it returns false'. Refute it at one input. -/
def scanMarksWrong : ChangeSpec := { name := "scanMarks", fn := fun _ => fun
  | [d] => { results := [.lit (.bool false)], args := [d] }
  | _ => none }
def ScanMarksWrongFalsely : Prop := scanMarksRow.holds Tryd.pinned (OpenSpec.ofChange scanMarksWrong)

/-- 'dragomanlaw15.ScanSlashes': WHATEVER THE INPUT: true; the input reads as it did. -/
def scanSlashesSpec : ChangeSpec := { name := "scanSlashes", fn := fun _ => fun
  | [d] => { results := [.lit (.bool true)], args := [d] }
  | _ => none }
def scanSlashesRow : OpenClaim := { program := "ytdochnioodedmaadoor", sum := "f4d996bfbdd01ae4c5a816edd73d6eefa1f4b7a2b91f1846ad71e2cc3593866e", func := "dragoman/dragomanlaw15.ScanSlashes", spec := "scanSlashes", inPlace := ["math/bits.Add64", "internal/bytealg.IndexByteString", "internal/bytealg.CountString", "internal/bytealg.IndexString"], unfollowed := true, recurses := true, named := ["unicode/utf8.first", "unicode/utf8.acceptRanges", "internal/bytealg.MaxLen"], apart := false, laid := [("unicode/utf8.acceptRanges", laid_unicode_utf8_acceptRanges), ("unicode/utf8.first", laid_unicode_utf8_first)] }
def ScanSlashesSaid : Prop := scanSlashesRow.holds Tryd.pinned (OpenSpec.ofChange scanSlashesSpec)

/-- ITS FALSE NEIGHBOUR: 'it returns false'. Refute it at one input. -/
def scanSlashesWrong : ChangeSpec := { name := "scanSlashes", fn := fun _ => fun
  | [d] => { results := [.lit (.bool false)], args := [d] }
  | _ => none }
def ScanSlashesWrongFalsely : Prop := scanSlashesRow.holds Tryd.pinned (OpenSpec.ofChange scanSlashesWrong)

/- THE SECOND FORM. 'bulk': how many values and letters a reading holds, each counted each time it is reached (what is shared counts as often as it is met; a slice's spare places count too). A statement '..UptoSaid' is the law's where the arguments, and the package variables that the reading takes, are together of bulk at most 1048576: NARROWER than '..Said'. Prove '..Said' where nothing that the law and all that it calls make is longer than what came in: it says more and counts as full. Else prove '..UptoSaid'. A law counts once. -/
mutual
def uptoBulk {H : Type} : DataW H → Nat
  | .lit (.string bytes) => bytes.length + 1
  | .lit _ => 1
  | .nil => 1
  | .ptr d => uptoBulk d + 1
  | .slice elems spare => uptoBulkAll elems + uptoBulkAll spare + 1
  | .agg parts => uptoBulkAll parts + 1
  | .iface _ d => uptoBulk d + 1
  | .map entries => uptoBulkEntries entries + 1
  | .held _ => 1
def uptoBulkAll {H : Type} : List (DataW H) → Nat
  | [] => 0
  | d :: r => uptoBulk d + uptoBulkAll r
def uptoBulkEntries {H : Type} : List (Lit × DataW H) → Nat
  | [] => 0
  | x :: r => uptoBulkEntry x + uptoBulkEntries r
def uptoBulkEntry {H : Type} : Lit × DataW H → Nat
  | (.string bytes, d) => bytes.length + uptoBulk d + 1
  | (_, d) => uptoBulk d + 1
 end
def uptoSmall : (H : Type) → List (DataW H) → Bool := fun _ ds => decide (uptoBulkAll ds ≤ 1048576)
def OpenSpec.upto (s : _root_.Go.ChangeSpec) : _root_.Go.OpenSpec := { _root_.Go.OpenSpec.ofChange s with cond := some uptoSmall }

/-- 'dragomanlaw15.ScanOperands', WHERE WHAT IT READS IS OF BULK AT MOST 1048576: true; the input reads as it did. -/
def scanOperandsUptoRow : OpenClaim := { program := "ytdochnioodedmaadoor", sum := "f4d996bfbdd01ae4c5a816edd73d6eefa1f4b7a2b91f1846ad71e2cc3593866e", func := "dragoman/dragomanlaw15.ScanOperands", spec := "scanOperands", inPlace := ["math/bits.Add64", "internal/bytealg.IndexByteString", "internal/bytealg.CountString", "internal/bytealg.IndexString"], unfollowed := true, recurses := true, named := ["unicode/utf8.first", "unicode/utf8.acceptRanges", "internal/bytealg.MaxLen"], apart := false, laid := [("unicode/utf8.acceptRanges", laid_unicode_utf8_acceptRanges), ("unicode/utf8.first", laid_unicode_utf8_first)], narrowed := true }
def ScanOperandsUptoSaid : Prop := scanOperandsUptoRow.holds Tryd.pinned (OpenSpec.upto scanOperandsSpec)

/-- 'dragomanlaw15.ScanPlaces', WHERE WHAT IT READS IS OF BULK AT MOST 1048576: true; the input reads as it did. -/
def scanPlacesUptoRow : OpenClaim := { program := "ytdochnioodedmaadoor", sum := "f4d996bfbdd01ae4c5a816edd73d6eefa1f4b7a2b91f1846ad71e2cc3593866e", func := "dragoman/dragomanlaw15.ScanPlaces", spec := "scanPlaces", inPlace := ["math/bits.Add64", "internal/bytealg.IndexByteString", "internal/bytealg.CountString", "internal/bytealg.IndexString"], unfollowed := true, recurses := true, named := ["unicode/utf8.first", "unicode/utf8.acceptRanges", "internal/bytealg.MaxLen"], apart := false, laid := [("unicode/utf8.acceptRanges", laid_unicode_utf8_acceptRanges), ("unicode/utf8.first", laid_unicode_utf8_first)], narrowed := true }
def ScanPlacesUptoSaid : Prop := scanPlacesUptoRow.holds Tryd.pinned (OpenSpec.upto scanPlacesSpec)

/-- 'dragomanlaw15.ScanJoins', WHERE WHAT IT READS IS OF BULK AT MOST 1048576: true; the input reads as it did. -/
def scanJoinsUptoRow : OpenClaim := { program := "ytdochnioodedmaadoor", sum := "f4d996bfbdd01ae4c5a816edd73d6eefa1f4b7a2b91f1846ad71e2cc3593866e", func := "dragoman/dragomanlaw15.ScanJoins", spec := "scanJoins", inPlace := ["math/bits.Add64", "internal/bytealg.IndexByteString", "internal/bytealg.CountString", "internal/bytealg.IndexString"], unfollowed := true, recurses := true, named := ["unicode/utf8.first", "unicode/utf8.acceptRanges", "internal/bytealg.MaxLen"], apart := false, laid := [("unicode/utf8.acceptRanges", laid_unicode_utf8_acceptRanges), ("unicode/utf8.first", laid_unicode_utf8_first)], narrowed := true }
def ScanJoinsUptoSaid : Prop := scanJoinsUptoRow.holds Tryd.pinned (OpenSpec.upto scanJoinsSpec)

/-- 'dragomanlaw15.ScanTexts', WHERE WHAT IT READS IS OF BULK AT MOST 1048576: true; the input reads as it did. -/
def scanTextsUptoRow : OpenClaim := { program := "ytdochnioodedmaadoor", sum := "f4d996bfbdd01ae4c5a816edd73d6eefa1f4b7a2b91f1846ad71e2cc3593866e", func := "dragoman/dragomanlaw15.ScanTexts", spec := "scanTexts", inPlace := ["math/bits.Add64", "internal/bytealg.IndexByteString", "internal/bytealg.CountString", "internal/bytealg.IndexString"], unfollowed := true, recurses := true, named := ["unicode/utf8.first", "unicode/utf8.acceptRanges", "internal/bytealg.MaxLen"], apart := false, laid := [("unicode/utf8.acceptRanges", laid_unicode_utf8_acceptRanges), ("unicode/utf8.first", laid_unicode_utf8_first)], narrowed := true }
def ScanTextsUptoSaid : Prop := scanTextsUptoRow.holds Tryd.pinned (OpenSpec.upto scanTextsSpec)

/-- 'dragomanlaw15.ScanMarks', WHERE WHAT IT READS IS OF BULK AT MOST 1048576: true; the input reads as it did. -/
def scanMarksUptoRow : OpenClaim := { program := "ytdochnioodedmaadoor", sum := "f4d996bfbdd01ae4c5a816edd73d6eefa1f4b7a2b91f1846ad71e2cc3593866e", func := "dragoman/dragomanlaw15.ScanMarks", spec := "scanMarks", inPlace := ["math/bits.Add64", "internal/bytealg.IndexByteString", "internal/bytealg.CountString", "internal/bytealg.IndexString"], unfollowed := true, recurses := true, named := ["unicode/utf8.first", "unicode/utf8.acceptRanges", "internal/bytealg.MaxLen"], apart := false, laid := [("unicode/utf8.acceptRanges", laid_unicode_utf8_acceptRanges), ("unicode/utf8.first", laid_unicode_utf8_first)], narrowed := true }
def ScanMarksUptoSaid : Prop := scanMarksUptoRow.holds Tryd.pinned (OpenSpec.upto scanMarksSpec)

/-- 'dragomanlaw15.ScanSlashes', WHERE WHAT IT READS IS OF BULK AT MOST 1048576: true; the input reads as it did. -/
def scanSlashesUptoRow : OpenClaim := { program := "ytdochnioodedmaadoor", sum := "f4d996bfbdd01ae4c5a816edd73d6eefa1f4b7a2b91f1846ad71e2cc3593866e", func := "dragoman/dragomanlaw15.ScanSlashes", spec := "scanSlashes", inPlace := ["math/bits.Add64", "internal/bytealg.IndexByteString", "internal/bytealg.CountString", "internal/bytealg.IndexString"], unfollowed := true, recurses := true, named := ["unicode/utf8.first", "unicode/utf8.acceptRanges", "internal/bytealg.MaxLen"], apart := false, laid := [("unicode/utf8.acceptRanges", laid_unicode_utf8_acceptRanges), ("unicode/utf8.first", laid_unicode_utf8_first)], narrowed := true }
def ScanSlashesUptoSaid : Prop := scanSlashesUptoRow.holds Tryd.pinned (OpenSpec.upto scanSlashesSpec)

end Rows
end Go.Proofs.YtdochnioodedmaaDoor
