/-
  NARROWER THAN 'FOR EVERY INPUT', by the rows' own cells (each row's printed sentence says how): DecodeBytes: laid · EncodeNormal: loops, laid · EncodeFields: loops, laid · EncodeBytes: loops, laid · EncodeEmpty: loops, laid · DecodeTurned: loops, laid · DecodeUnknown: laid · DecodeJoins: loops, laid · DecodeFits: laid · DecodeBack: loops, laid.
  DERIVED. THE GIVEN ROWS OF THIS SEAT. 10 by the template 'for every input the law returns true; each argument reads behind the call as it read before'; 0 by the template 'total and deterministic' (their statements: YtjcolfogmmjaoaaGreatDoorTotals.lean).
  GIVEN WITH THE SEED: the statements are not yours to turn. If you find one false, say at which input.
  Laid BY PROGRAM, IN A SANDBOX (cutbox-rows.mjs): the forced cells as the released guide's own fill.sh prints them over the translation 9d10f05d585470c5… (all of the seat's roots in one cut). By AI agents, Wed Nov 11 2026. No macro, syntax, notation, axiom, sorry.
-/
import Derived.Test.YtjcolfogmmjaoaaGreatDoorChecked
import GoSem.PinnedTables
import GoSem.Claim
import GoSem.ClaimJoined
import GoSem.ClaimMapViews
import Derived.JoinedTies
import Derived.KernelRfl
namespace Go.Proofs.YtjcolfogmmjaoaaGreatDoor
/- THE CELL 'sum', in the pinned program and in every row, IS THE sha256 OF THE DUMP (.gsa) THAT YtjcolfogmmjaoaaGreatDoorProg.lean LOADS. Nothing in Lean hashes anything: it is a label: what it is worth is what the hold of that sum in a sandbox is worth. -/
noncomputable def Tryz.pinned : Pinned := { name := "ytjcolfogmmjaoaagreatdoor", sum := "9d10f05d585470c5090c8f1c4b25eca8a6f0ffeb6c53ee162c4904079ce687bb", checked := Tryz.checked }
namespace Rows
def none {H : Type} : Left H := { results := [], args := [] }

/- WHAT THE LISTED PACKAGE-LEVEL VARIABLES READ AS WHEN THE CALL BEGINS. Each datum BY PROGRAM (the guide's laid-datum.mjs) off the statement by which the dump's own 'gosem.cut.vars' lays the variable. In a bare row this is a premise. The card (YtjcolfogmmjaoaaGreatDoorCards.lean) ties it to the program's text. -/
def laid_unicode_utf8_acceptRanges {H : Type} : DataW H := .agg [.agg [.lit (.int .u8 128), .lit (.int .u8 191)], .agg [.lit (.int .u8 160), .lit (.int .u8 191)], .agg [.lit (.int .u8 128), .lit (.int .u8 159)], .agg [.lit (.int .u8 144), .lit (.int .u8 191)], .agg [.lit (.int .u8 128), .lit (.int .u8 143)], .agg [.lit (.int .u8 0), .lit (.int .u8 0)], .agg [.lit (.int .u8 0), .lit (.int .u8 0)], .agg [.lit (.int .u8 0), .lit (.int .u8 0)], .agg [.lit (.int .u8 0), .lit (.int .u8 0)], .agg [.lit (.int .u8 0), .lit (.int .u8 0)], .agg [.lit (.int .u8 0), .lit (.int .u8 0)], .agg [.lit (.int .u8 0), .lit (.int .u8 0)], .agg [.lit (.int .u8 0), .lit (.int .u8 0)], .agg [.lit (.int .u8 0), .lit (.int .u8 0)], .agg [.lit (.int .u8 0), .lit (.int .u8 0)], .agg [.lit (.int .u8 0), .lit (.int .u8 0)]]
/-- One of Go's own tables, pinned by name: the form's constant. -/
def laid_unicode_utf8_first : DataW Unit := Go.Pinned.utf8First

/-- 'courierlaw11.DecodeBytes': WHATEVER THE INPUT: true; the input reads as it did. -/
def decodeBytesSpec : ChangeSpec := { name := "decodeBytes", fn := fun _ => fun
  | [d1, d2, d3] => { results := [.lit (.bool true)], args := [d1, d2, d3] }
  | _ => none }
def decodeBytesRow : OpenClaim := { program := "ytjcolfogmmjaoaagreatdoor", sum := "9d10f05d585470c5090c8f1c4b25eca8a6f0ffeb6c53ee162c4904079ce687bb", func := "courier/courierlaw11.DecodeBytes", spec := "decodeBytes", inPlace := ["internal/bytealg.CountString", "internal/bytealg.IndexByteString", "internal/bytealg.IndexString"], unfollowed := true, recurses := true, named := ["unicode/utf8.first", "unicode/utf8.acceptRanges", "internal/bytealg.MaxLen"], plainKeys := false, apart := false, laid := [("unicode/utf8.acceptRanges", laid_unicode_utf8_acceptRanges), ("unicode/utf8.first", laid_unicode_utf8_first)] }
def DecodeBytesSaid : Prop := decodeBytesRow.holds Tryz.pinned (OpenSpec.ofChange decodeBytesSpec)

/-- ITS FALSE NEIGHBOUR: 'it returns false'. Refute it at one input. -/
def decodeBytesWrong : ChangeSpec := { name := "decodeBytes", fn := fun _ => fun
  | [d1, d2, d3] => { results := [.lit (.bool false)], args := [d1, d2, d3] }
  | _ => none }
def DecodeBytesWrongFalsely : Prop := decodeBytesRow.holds Tryz.pinned (OpenSpec.ofChange decodeBytesWrong)

/-- 'courierlaw10.EncodeNormal': WHATEVER THE INPUT: true; the input reads as it did. -/
def encodeNormalSpec : ChangeSpec := { name := "encodeNormal", fn := fun _ => fun
  | [d1, d2, d3] => { results := [.lit (.bool true)], args := [d1, d2, d3] }
  | _ => none }
def encodeNormalRow : OpenClaim := { program := "ytjcolfogmmjaoaagreatdoor", sum := "9d10f05d585470c5090c8f1c4b25eca8a6f0ffeb6c53ee162c4904079ce687bb", func := "courier/courierlaw10.EncodeNormal", spec := "encodeNormal", inPlace := ["internal/bytealg.CountString", "internal/bytealg.IndexByteString", "internal/bytealg.IndexString"], unfollowed := true, recurses := true, named := ["unicode/utf8.first", "unicode/utf8.acceptRanges", "internal/bytealg.MaxLen"], loops := true, plainKeys := false, apart := false, laid := [("unicode/utf8.acceptRanges", laid_unicode_utf8_acceptRanges), ("unicode/utf8.first", laid_unicode_utf8_first)] }
def EncodeNormalSaid : Prop := encodeNormalRow.holds Tryz.pinned (OpenSpec.ofChange encodeNormalSpec)

/-- ITS FALSE NEIGHBOUR: 'it returns false'. Refute it at one input. -/
def encodeNormalWrong : ChangeSpec := { name := "encodeNormal", fn := fun _ => fun
  | [d1, d2, d3] => { results := [.lit (.bool false)], args := [d1, d2, d3] }
  | _ => none }
def EncodeNormalWrongFalsely : Prop := encodeNormalRow.holds Tryz.pinned (OpenSpec.ofChange encodeNormalWrong)

/-- 'courierlaw10.EncodeFields': WHATEVER THE INPUT: true; the input reads as it did. -/
def encodeFieldsSpec : ChangeSpec := { name := "encodeFields", fn := fun _ => fun
  | [d1, d2, d3] => { results := [.lit (.bool true)], args := [d1, d2, d3] }
  | _ => none }
def encodeFieldsRow : OpenClaim := { program := "ytjcolfogmmjaoaagreatdoor", sum := "9d10f05d585470c5090c8f1c4b25eca8a6f0ffeb6c53ee162c4904079ce687bb", func := "courier/courierlaw10.EncodeFields", spec := "encodeFields", inPlace := ["internal/bytealg.CountString", "internal/bytealg.IndexByteString", "internal/bytealg.IndexString"], unfollowed := true, recurses := true, named := ["unicode/utf8.first", "unicode/utf8.acceptRanges", "internal/bytealg.MaxLen"], loops := true, plainKeys := false, apart := false, laid := [("unicode/utf8.acceptRanges", laid_unicode_utf8_acceptRanges), ("unicode/utf8.first", laid_unicode_utf8_first)] }
def EncodeFieldsSaid : Prop := encodeFieldsRow.holds Tryz.pinned (OpenSpec.ofChange encodeFieldsSpec)

/-- ITS FALSE NEIGHBOUR: 'it returns false'. Refute it at one input. -/
def encodeFieldsWrong : ChangeSpec := { name := "encodeFields", fn := fun _ => fun
  | [d1, d2, d3] => { results := [.lit (.bool false)], args := [d1, d2, d3] }
  | _ => none }
def EncodeFieldsWrongFalsely : Prop := encodeFieldsRow.holds Tryz.pinned (OpenSpec.ofChange encodeFieldsWrong)

/-- 'courierlaw10.EncodeBytes': WHATEVER THE INPUT: true; the input reads as it did. -/
def encodeBytesSpec : ChangeSpec := { name := "encodeBytes", fn := fun _ => fun
  | [d1, d2, d3] => { results := [.lit (.bool true)], args := [d1, d2, d3] }
  | _ => none }
def encodeBytesRow : OpenClaim := { program := "ytjcolfogmmjaoaagreatdoor", sum := "9d10f05d585470c5090c8f1c4b25eca8a6f0ffeb6c53ee162c4904079ce687bb", func := "courier/courierlaw10.EncodeBytes", spec := "encodeBytes", inPlace := ["internal/bytealg.CountString", "internal/bytealg.IndexByteString", "internal/bytealg.IndexString"], unfollowed := true, recurses := true, named := ["unicode/utf8.first", "unicode/utf8.acceptRanges", "internal/bytealg.MaxLen"], loops := true, plainKeys := false, apart := false, laid := [("unicode/utf8.acceptRanges", laid_unicode_utf8_acceptRanges), ("unicode/utf8.first", laid_unicode_utf8_first)] }
def EncodeBytesSaid : Prop := encodeBytesRow.holds Tryz.pinned (OpenSpec.ofChange encodeBytesSpec)

/-- ITS FALSE NEIGHBOUR: 'it returns false'. Refute it at one input. -/
def encodeBytesWrong : ChangeSpec := { name := "encodeBytes", fn := fun _ => fun
  | [d1, d2, d3] => { results := [.lit (.bool false)], args := [d1, d2, d3] }
  | _ => none }
def EncodeBytesWrongFalsely : Prop := encodeBytesRow.holds Tryz.pinned (OpenSpec.ofChange encodeBytesWrong)

/-- 'courierlaw10.EncodeEmpty': WHATEVER THE INPUT: true; the input reads as it did. -/
def encodeEmptySpec : ChangeSpec := { name := "encodeEmpty", fn := fun _ => fun
  | [d1, d2, d3] => { results := [.lit (.bool true)], args := [d1, d2, d3] }
  | _ => none }
def encodeEmptyRow : OpenClaim := { program := "ytjcolfogmmjaoaagreatdoor", sum := "9d10f05d585470c5090c8f1c4b25eca8a6f0ffeb6c53ee162c4904079ce687bb", func := "courier/courierlaw10.EncodeEmpty", spec := "encodeEmpty", inPlace := ["internal/bytealg.CountString", "internal/bytealg.IndexByteString", "internal/bytealg.IndexString"], unfollowed := true, recurses := true, named := ["unicode/utf8.first", "unicode/utf8.acceptRanges", "internal/bytealg.MaxLen"], loops := true, plainKeys := false, apart := false, laid := [("unicode/utf8.acceptRanges", laid_unicode_utf8_acceptRanges), ("unicode/utf8.first", laid_unicode_utf8_first)] }
def EncodeEmptySaid : Prop := encodeEmptyRow.holds Tryz.pinned (OpenSpec.ofChange encodeEmptySpec)

/-- ITS FALSE NEIGHBOUR: 'it returns false'. Refute it at one input. -/
def encodeEmptyWrong : ChangeSpec := { name := "encodeEmpty", fn := fun _ => fun
  | [d1, d2, d3] => { results := [.lit (.bool false)], args := [d1, d2, d3] }
  | _ => none }
def EncodeEmptyWrongFalsely : Prop := encodeEmptyRow.holds Tryz.pinned (OpenSpec.ofChange encodeEmptyWrong)

/-- 'courierlaw11.DecodeTurned': WHATEVER THE INPUT: true; the input reads as it did. -/
def decodeTurnedSpec : ChangeSpec := { name := "decodeTurned", fn := fun _ => fun
  | [d1, d2, d3, d4, d5, d6] => { results := [.lit (.bool true)], args := [d1, d2, d3, d4, d5, d6] }
  | _ => none }
def decodeTurnedRow : OpenClaim := { program := "ytjcolfogmmjaoaagreatdoor", sum := "9d10f05d585470c5090c8f1c4b25eca8a6f0ffeb6c53ee162c4904079ce687bb", func := "courier/courierlaw11.DecodeTurned", spec := "decodeTurned", inPlace := ["internal/bytealg.CountString", "internal/bytealg.IndexByteString", "internal/bytealg.IndexString"], unfollowed := true, recurses := true, named := ["unicode/utf8.first", "unicode/utf8.acceptRanges", "internal/bytealg.MaxLen"], loops := true, plainKeys := false, apart := false, laid := [("unicode/utf8.acceptRanges", laid_unicode_utf8_acceptRanges), ("unicode/utf8.first", laid_unicode_utf8_first)] }
def DecodeTurnedSaid : Prop := decodeTurnedRow.holds Tryz.pinned (OpenSpec.ofChange decodeTurnedSpec)

/-- ITS FALSE NEIGHBOUR: 'it returns false'. Refute it at one input. -/
def decodeTurnedWrong : ChangeSpec := { name := "decodeTurned", fn := fun _ => fun
  | [d1, d2, d3, d4, d5, d6] => { results := [.lit (.bool false)], args := [d1, d2, d3, d4, d5, d6] }
  | _ => none }
def DecodeTurnedWrongFalsely : Prop := decodeTurnedRow.holds Tryz.pinned (OpenSpec.ofChange decodeTurnedWrong)

/-- 'courierlaw11.DecodeUnknown': WHATEVER THE INPUT: true; the input reads as it did. -/
def decodeUnknownSpec : ChangeSpec := { name := "decodeUnknown", fn := fun _ => fun
  | [d1, d2] => { results := [.lit (.bool true)], args := [d1, d2] }
  | _ => none }
def decodeUnknownRow : OpenClaim := { program := "ytjcolfogmmjaoaagreatdoor", sum := "9d10f05d585470c5090c8f1c4b25eca8a6f0ffeb6c53ee162c4904079ce687bb", func := "courier/courierlaw11.DecodeUnknown", spec := "decodeUnknown", inPlace := ["internal/bytealg.CountString", "internal/bytealg.IndexByteString", "internal/bytealg.IndexString"], unfollowed := true, recurses := true, named := ["unicode/utf8.first", "unicode/utf8.acceptRanges", "internal/bytealg.MaxLen"], plainKeys := false, apart := false, laid := [("unicode/utf8.acceptRanges", laid_unicode_utf8_acceptRanges), ("unicode/utf8.first", laid_unicode_utf8_first)] }
def DecodeUnknownSaid : Prop := decodeUnknownRow.holds Tryz.pinned (OpenSpec.ofChange decodeUnknownSpec)

/-- ITS FALSE NEIGHBOUR: 'it returns false'. Refute it at one input. -/
def decodeUnknownWrong : ChangeSpec := { name := "decodeUnknown", fn := fun _ => fun
  | [d1, d2] => { results := [.lit (.bool false)], args := [d1, d2] }
  | _ => none }
def DecodeUnknownWrongFalsely : Prop := decodeUnknownRow.holds Tryz.pinned (OpenSpec.ofChange decodeUnknownWrong)

/-- 'courierlaw11.DecodeJoins': WHATEVER THE INPUT: true; the input reads as it did. -/
def decodeJoinsSpec : ChangeSpec := { name := "decodeJoins", fn := fun _ => fun
  | [d1, d2, d3, d4] => { results := [.lit (.bool true)], args := [d1, d2, d3, d4] }
  | _ => none }
def decodeJoinsRow : OpenClaim := { program := "ytjcolfogmmjaoaagreatdoor", sum := "9d10f05d585470c5090c8f1c4b25eca8a6f0ffeb6c53ee162c4904079ce687bb", func := "courier/courierlaw11.DecodeJoins", spec := "decodeJoins", inPlace := ["internal/bytealg.CountString", "internal/bytealg.IndexByteString", "internal/bytealg.IndexString"], unfollowed := true, recurses := true, named := ["unicode/utf8.first", "unicode/utf8.acceptRanges", "internal/bytealg.MaxLen"], loops := true, plainKeys := false, apart := false, laid := [("unicode/utf8.acceptRanges", laid_unicode_utf8_acceptRanges), ("unicode/utf8.first", laid_unicode_utf8_first)] }
def DecodeJoinsSaid : Prop := decodeJoinsRow.holds Tryz.pinned (OpenSpec.ofChange decodeJoinsSpec)

/-- ITS FALSE NEIGHBOUR: 'it returns false'. Refute it at one input. -/
def decodeJoinsWrong : ChangeSpec := { name := "decodeJoins", fn := fun _ => fun
  | [d1, d2, d3, d4] => { results := [.lit (.bool false)], args := [d1, d2, d3, d4] }
  | _ => none }
def DecodeJoinsWrongFalsely : Prop := decodeJoinsRow.holds Tryz.pinned (OpenSpec.ofChange decodeJoinsWrong)

/-- 'courierlaw11.DecodeFits': WHATEVER THE INPUT: true; the input reads as it did. -/
def decodeFitsSpec : ChangeSpec := { name := "decodeFits", fn := fun _ => fun
  | [d1, d2, d3] => { results := [.lit (.bool true)], args := [d1, d2, d3] }
  | _ => none }
def decodeFitsRow : OpenClaim := { program := "ytjcolfogmmjaoaagreatdoor", sum := "9d10f05d585470c5090c8f1c4b25eca8a6f0ffeb6c53ee162c4904079ce687bb", func := "courier/courierlaw11.DecodeFits", spec := "decodeFits", inPlace := ["internal/bytealg.CountString", "internal/bytealg.IndexByteString", "internal/bytealg.IndexString"], unfollowed := true, recurses := true, named := ["unicode/utf8.first", "unicode/utf8.acceptRanges", "internal/bytealg.MaxLen"], plainKeys := false, apart := false, laid := [("unicode/utf8.acceptRanges", laid_unicode_utf8_acceptRanges), ("unicode/utf8.first", laid_unicode_utf8_first)] }
def DecodeFitsSaid : Prop := decodeFitsRow.holds Tryz.pinned (OpenSpec.ofChange decodeFitsSpec)

/-- ITS FALSE NEIGHBOUR: 'it returns false'. Refute it at one input. -/
def decodeFitsWrong : ChangeSpec := { name := "decodeFits", fn := fun _ => fun
  | [d1, d2, d3] => { results := [.lit (.bool false)], args := [d1, d2, d3] }
  | _ => none }
def DecodeFitsWrongFalsely : Prop := decodeFitsRow.holds Tryz.pinned (OpenSpec.ofChange decodeFitsWrong)

/-- 'courierlaw11.DecodeBack': WHATEVER THE INPUT: true; the input reads as it did. -/
def decodeBackSpec : ChangeSpec := { name := "decodeBack", fn := fun _ => fun
  | [d1, d2, d3] => { results := [.lit (.bool true)], args := [d1, d2, d3] }
  | _ => none }
def decodeBackRow : OpenClaim := { program := "ytjcolfogmmjaoaagreatdoor", sum := "9d10f05d585470c5090c8f1c4b25eca8a6f0ffeb6c53ee162c4904079ce687bb", func := "courier/courierlaw11.DecodeBack", spec := "decodeBack", inPlace := ["internal/bytealg.CountString", "internal/bytealg.IndexByteString", "internal/bytealg.IndexString"], unfollowed := true, recurses := true, named := ["unicode/utf8.first", "unicode/utf8.acceptRanges", "internal/bytealg.MaxLen"], loops := true, plainKeys := false, apart := false, laid := [("unicode/utf8.acceptRanges", laid_unicode_utf8_acceptRanges), ("unicode/utf8.first", laid_unicode_utf8_first)] }
def DecodeBackSaid : Prop := decodeBackRow.holds Tryz.pinned (OpenSpec.ofChange decodeBackSpec)

/-- ITS FALSE NEIGHBOUR: 'it returns false'. Refute it at one input. -/
def decodeBackWrong : ChangeSpec := { name := "decodeBack", fn := fun _ => fun
  | [d1, d2, d3] => { results := [.lit (.bool false)], args := [d1, d2, d3] }
  | _ => none }
def DecodeBackWrongFalsely : Prop := decodeBackRow.holds Tryz.pinned (OpenSpec.ofChange decodeBackWrong)

/- THE SECOND FORM. 'bulk': how many values and letters a reading holds, each counted each time it is reached (what is shared counts as often as it is met; a slice's spare places count too). A statement '..UptoSaid' is the law's where the arguments, and the package variables that the reading takes, are together of bulk at most 1048576: NARROWER than '..Said'. Prove '..Said' where nothing that the law and all that it calls make is longer than what came in: it says more and counts as full. Else prove '..UptoSaid'. A law counts once. -/
mutual
def uptoBulk {H : Type} : DataW H → Nat
  | .lit (.string bytes) => bytes.length + 1
  | .lit _ => 1
  | .nil => 1
  | .ptr d => uptoBulk d + 1
  | .slice elems spare => uptoBulkAll elems + uptoBulkAll spare + 1
  | .agg parts => uptoBulkAll parts + 1
  | .iface _ d => uptoBulk d + 1
  | .map entries => uptoBulkEntries entries + 1
  | .held _ => 1
def uptoBulkAll {H : Type} : List (DataW H) → Nat
  | [] => 0
  | d :: r => uptoBulk d + uptoBulkAll r
def uptoBulkEntries {H : Type} : List (Lit × DataW H) → Nat
  | [] => 0
  | x :: r => uptoBulkEntry x + uptoBulkEntries r
def uptoBulkEntry {H : Type} : Lit × DataW H → Nat
  | (.string bytes, d) => bytes.length + uptoBulk d + 1
  | (_, d) => uptoBulk d + 1
 end
def uptoSmall : (H : Type) → List (DataW H) → Bool := fun _ ds => decide (uptoBulkAll ds ≤ 1048576)
def OpenSpec.upto (s : _root_.Go.ChangeSpec) : _root_.Go.OpenSpec := { _root_.Go.OpenSpec.ofChange s with cond := some uptoSmall }

/-- 'courierlaw11.DecodeBytes', WHERE WHAT IT READS IS OF BULK AT MOST 1048576: true; the input reads as it did. -/
def decodeBytesUptoRow : OpenClaim := { program := "ytjcolfogmmjaoaagreatdoor", sum := "9d10f05d585470c5090c8f1c4b25eca8a6f0ffeb6c53ee162c4904079ce687bb", func := "courier/courierlaw11.DecodeBytes", spec := "decodeBytes", inPlace := ["internal/bytealg.CountString", "internal/bytealg.IndexByteString", "internal/bytealg.IndexString"], unfollowed := true, recurses := true, named := ["unicode/utf8.first", "unicode/utf8.acceptRanges", "internal/bytealg.MaxLen"], plainKeys := false, apart := false, laid := [("unicode/utf8.acceptRanges", laid_unicode_utf8_acceptRanges), ("unicode/utf8.first", laid_unicode_utf8_first)], narrowed := true }
def DecodeBytesUptoSaid : Prop := decodeBytesUptoRow.holds Tryz.pinned (OpenSpec.upto decodeBytesSpec)

/-- 'courierlaw10.EncodeNormal', WHERE WHAT IT READS IS OF BULK AT MOST 1048576: true; the input reads as it did. -/
def encodeNormalUptoRow : OpenClaim := { program := "ytjcolfogmmjaoaagreatdoor", sum := "9d10f05d585470c5090c8f1c4b25eca8a6f0ffeb6c53ee162c4904079ce687bb", func := "courier/courierlaw10.EncodeNormal", spec := "encodeNormal", inPlace := ["internal/bytealg.CountString", "internal/bytealg.IndexByteString", "internal/bytealg.IndexString"], unfollowed := true, recurses := true, named := ["unicode/utf8.first", "unicode/utf8.acceptRanges", "internal/bytealg.MaxLen"], loops := true, plainKeys := false, apart := false, laid := [("unicode/utf8.acceptRanges", laid_unicode_utf8_acceptRanges), ("unicode/utf8.first", laid_unicode_utf8_first)], narrowed := true }
def EncodeNormalUptoSaid : Prop := encodeNormalUptoRow.holds Tryz.pinned (OpenSpec.upto encodeNormalSpec)

/-- 'courierlaw10.EncodeFields', WHERE WHAT IT READS IS OF BULK AT MOST 1048576: true; the input reads as it did. -/
def encodeFieldsUptoRow : OpenClaim := { program := "ytjcolfogmmjaoaagreatdoor", sum := "9d10f05d585470c5090c8f1c4b25eca8a6f0ffeb6c53ee162c4904079ce687bb", func := "courier/courierlaw10.EncodeFields", spec := "encodeFields", inPlace := ["internal/bytealg.CountString", "internal/bytealg.IndexByteString", "internal/bytealg.IndexString"], unfollowed := true, recurses := true, named := ["unicode/utf8.first", "unicode/utf8.acceptRanges", "internal/bytealg.MaxLen"], loops := true, plainKeys := false, apart := false, laid := [("unicode/utf8.acceptRanges", laid_unicode_utf8_acceptRanges), ("unicode/utf8.first", laid_unicode_utf8_first)], narrowed := true }
def EncodeFieldsUptoSaid : Prop := encodeFieldsUptoRow.holds Tryz.pinned (OpenSpec.upto encodeFieldsSpec)

/-- 'courierlaw10.EncodeBytes', WHERE WHAT IT READS IS OF BULK AT MOST 1048576: true; the input reads as it did. -/
def encodeBytesUptoRow : OpenClaim := { program := "ytjcolfogmmjaoaagreatdoor", sum := "9d10f05d585470c5090c8f1c4b25eca8a6f0ffeb6c53ee162c4904079ce687bb", func := "courier/courierlaw10.EncodeBytes", spec := "encodeBytes", inPlace := ["internal/bytealg.CountString", "internal/bytealg.IndexByteString", "internal/bytealg.IndexString"], unfollowed := true, recurses := true, named := ["unicode/utf8.first", "unicode/utf8.acceptRanges", "internal/bytealg.MaxLen"], loops := true, plainKeys := false, apart := false, laid := [("unicode/utf8.acceptRanges", laid_unicode_utf8_acceptRanges), ("unicode/utf8.first", laid_unicode_utf8_first)], narrowed := true }
def EncodeBytesUptoSaid : Prop := encodeBytesUptoRow.holds Tryz.pinned (OpenSpec.upto encodeBytesSpec)

/-- 'courierlaw10.EncodeEmpty', WHERE WHAT IT READS IS OF BULK AT MOST 1048576: true; the input reads as it did. -/
def encodeEmptyUptoRow : OpenClaim := { program := "ytjcolfogmmjaoaagreatdoor", sum := "9d10f05d585470c5090c8f1c4b25eca8a6f0ffeb6c53ee162c4904079ce687bb", func := "courier/courierlaw10.EncodeEmpty", spec := "encodeEmpty", inPlace := ["internal/bytealg.CountString", "internal/bytealg.IndexByteString", "internal/bytealg.IndexString"], unfollowed := true, recurses := true, named := ["unicode/utf8.first", "unicode/utf8.acceptRanges", "internal/bytealg.MaxLen"], loops := true, plainKeys := false, apart := false, laid := [("unicode/utf8.acceptRanges", laid_unicode_utf8_acceptRanges), ("unicode/utf8.first", laid_unicode_utf8_first)], narrowed := true }
def EncodeEmptyUptoSaid : Prop := encodeEmptyUptoRow.holds Tryz.pinned (OpenSpec.upto encodeEmptySpec)

/-- 'courierlaw11.DecodeTurned', WHERE WHAT IT READS IS OF BULK AT MOST 1048576: true; the input reads as it did. -/
def decodeTurnedUptoRow : OpenClaim := { program := "ytjcolfogmmjaoaagreatdoor", sum := "9d10f05d585470c5090c8f1c4b25eca8a6f0ffeb6c53ee162c4904079ce687bb", func := "courier/courierlaw11.DecodeTurned", spec := "decodeTurned", inPlace := ["internal/bytealg.CountString", "internal/bytealg.IndexByteString", "internal/bytealg.IndexString"], unfollowed := true, recurses := true, named := ["unicode/utf8.first", "unicode/utf8.acceptRanges", "internal/bytealg.MaxLen"], loops := true, plainKeys := false, apart := false, laid := [("unicode/utf8.acceptRanges", laid_unicode_utf8_acceptRanges), ("unicode/utf8.first", laid_unicode_utf8_first)], narrowed := true }
def DecodeTurnedUptoSaid : Prop := decodeTurnedUptoRow.holds Tryz.pinned (OpenSpec.upto decodeTurnedSpec)

/-- 'courierlaw11.DecodeUnknown', WHERE WHAT IT READS IS OF BULK AT MOST 1048576: true; the input reads as it did. -/
def decodeUnknownUptoRow : OpenClaim := { program := "ytjcolfogmmjaoaagreatdoor", sum := "9d10f05d585470c5090c8f1c4b25eca8a6f0ffeb6c53ee162c4904079ce687bb", func := "courier/courierlaw11.DecodeUnknown", spec := "decodeUnknown", inPlace := ["internal/bytealg.CountString", "internal/bytealg.IndexByteString", "internal/bytealg.IndexString"], unfollowed := true, recurses := true, named := ["unicode/utf8.first", "unicode/utf8.acceptRanges", "internal/bytealg.MaxLen"], plainKeys := false, apart := false, laid := [("unicode/utf8.acceptRanges", laid_unicode_utf8_acceptRanges), ("unicode/utf8.first", laid_unicode_utf8_first)], narrowed := true }
def DecodeUnknownUptoSaid : Prop := decodeUnknownUptoRow.holds Tryz.pinned (OpenSpec.upto decodeUnknownSpec)

/-- 'courierlaw11.DecodeJoins', WHERE WHAT IT READS IS OF BULK AT MOST 1048576: true; the input reads as it did. -/
def decodeJoinsUptoRow : OpenClaim := { program := "ytjcolfogmmjaoaagreatdoor", sum := "9d10f05d585470c5090c8f1c4b25eca8a6f0ffeb6c53ee162c4904079ce687bb", func := "courier/courierlaw11.DecodeJoins", spec := "decodeJoins", inPlace := ["internal/bytealg.CountString", "internal/bytealg.IndexByteString", "internal/bytealg.IndexString"], unfollowed := true, recurses := true, named := ["unicode/utf8.first", "unicode/utf8.acceptRanges", "internal/bytealg.MaxLen"], loops := true, plainKeys := false, apart := false, laid := [("unicode/utf8.acceptRanges", laid_unicode_utf8_acceptRanges), ("unicode/utf8.first", laid_unicode_utf8_first)], narrowed := true }
def DecodeJoinsUptoSaid : Prop := decodeJoinsUptoRow.holds Tryz.pinned (OpenSpec.upto decodeJoinsSpec)

/-- 'courierlaw11.DecodeFits', WHERE WHAT IT READS IS OF BULK AT MOST 1048576: true; the input reads as it did. -/
def decodeFitsUptoRow : OpenClaim := { program := "ytjcolfogmmjaoaagreatdoor", sum := "9d10f05d585470c5090c8f1c4b25eca8a6f0ffeb6c53ee162c4904079ce687bb", func := "courier/courierlaw11.DecodeFits", spec := "decodeFits", inPlace := ["internal/bytealg.CountString", "internal/bytealg.IndexByteString", "internal/bytealg.IndexString"], unfollowed := true, recurses := true, named := ["unicode/utf8.first", "unicode/utf8.acceptRanges", "internal/bytealg.MaxLen"], plainKeys := false, apart := false, laid := [("unicode/utf8.acceptRanges", laid_unicode_utf8_acceptRanges), ("unicode/utf8.first", laid_unicode_utf8_first)], narrowed := true }
def DecodeFitsUptoSaid : Prop := decodeFitsUptoRow.holds Tryz.pinned (OpenSpec.upto decodeFitsSpec)

/-- 'courierlaw11.DecodeBack', WHERE WHAT IT READS IS OF BULK AT MOST 1048576: true; the input reads as it did. -/
def decodeBackUptoRow : OpenClaim := { program := "ytjcolfogmmjaoaagreatdoor", sum := "9d10f05d585470c5090c8f1c4b25eca8a6f0ffeb6c53ee162c4904079ce687bb", func := "courier/courierlaw11.DecodeBack", spec := "decodeBack", inPlace := ["internal/bytealg.CountString", "internal/bytealg.IndexByteString", "internal/bytealg.IndexString"], unfollowed := true, recurses := true, named := ["unicode/utf8.first", "unicode/utf8.acceptRanges", "internal/bytealg.MaxLen"], loops := true, plainKeys := false, apart := false, laid := [("unicode/utf8.acceptRanges", laid_unicode_utf8_acceptRanges), ("unicode/utf8.first", laid_unicode_utf8_first)], narrowed := true }
def DecodeBackUptoSaid : Prop := decodeBackUptoRow.holds Tryz.pinned (OpenSpec.upto decodeBackSpec)

end Rows
end Go.Proofs.YtjcolfogmmjaoaaGreatDoor
