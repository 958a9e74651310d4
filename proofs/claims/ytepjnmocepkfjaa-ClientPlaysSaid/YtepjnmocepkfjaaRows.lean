/-
  No cell of these rows narrows 'for every input' (looked for: loops, veiled, ifaces, maps, wideKeys, modest, calm, conditions, laid).
  DERIVED. THE GIVEN ROWS OF THIS SEAT. 6 by the template 'for every input the law returns true; each argument reads behind the call as it read before'; 0 by the template 'total and deterministic' (their statements: YtepjnmocepkfjaaTotals.lean).
  GIVEN WITH THE SEED: the statements are not yours to turn. If you find one false, say at which input.
  Laid BY PROGRAM, IN A SANDBOX (cutbox-rows.mjs): the forced cells as the released guide's own fill.sh prints them over the translation 6005c861b87f9270… (all of the seat's roots in one cut). By AI agents, Wed Nov 11 2026. No macro, syntax, notation, axiom, sorry.
-/
import Derived.Test.YtepjnmocepkfjaaChecked
import GoSem.Claim
import GoSem.ClaimJoined
import GoSem.ClaimMapViews
import Derived.JoinedTies
import Derived.KernelRfl
namespace Go.Proofs.Ytepjnmocepkfjaa
/- THE CELL 'sum', in the pinned program and in every row, IS THE sha256 OF THE DUMP (.gsa) THAT YtepjnmocepkfjaaProg.lean LOADS. Nothing in Lean hashes anything: it is a label: what it is worth is what the hold of that sum in a sandbox is worth. -/
noncomputable def Try.pinned : Pinned := { name := "ytepjnmocepkfjaa", sum := "6005c861b87f9270448cbe4958a3a2e794f6a8ec04f4093a2680f699977ce4e2", checked := Try.checked }
namespace Rows
def none {H : Type} : Left H := { results := [], args := [] }

/-- 'courierlaw23.ClientFull': WHATEVER THE INPUT: true; the input reads as it did. -/
def clientFullSpec : ChangeSpec := { name := "clientFull", fn := fun _ => fun
  | [d] => { results := [.lit (.bool true)], args := [d] }
  | _ => none }
def clientFullRow : OpenClaim := { program := "ytepjnmocepkfjaa", sum := "6005c861b87f9270448cbe4958a3a2e794f6a8ec04f4093a2680f699977ce4e2", func := "courier/courierlaw23.ClientFull", spec := "clientFull", unfollowed := true, recurses := true, apart := false }
def ClientFullSaid : Prop := clientFullRow.holds Try.pinned (OpenSpec.ofChange clientFullSpec)

/-- ITS FALSE NEIGHBOUR: 'it returns false'. Refute it at one input. -/
def clientFullWrong : ChangeSpec := { name := "clientFull", fn := fun _ => fun
  | [d] => { results := [.lit (.bool false)], args := [d] }
  | _ => none }
def ClientFullWrongFalsely : Prop := clientFullRow.holds Try.pinned (OpenSpec.ofChange clientFullWrong)

/-- 'courierlaw23.ClientTries': WHATEVER THE INPUT: true; the input reads as it did. -/
def clientTriesSpec : ChangeSpec := { name := "clientTries", fn := fun _ => fun
  | [d1, d2, d3] => { results := [.lit (.bool true)], args := [d1, d2, d3] }
  | _ => none }
def clientTriesRow : OpenClaim := { program := "ytepjnmocepkfjaa", sum := "6005c861b87f9270448cbe4958a3a2e794f6a8ec04f4093a2680f699977ce4e2", func := "courier/courierlaw23.ClientTries", spec := "clientTries", unfollowed := true, recurses := true, apart := false }
def ClientTriesSaid : Prop := clientTriesRow.holds Try.pinned (OpenSpec.ofChange clientTriesSpec)

/-- ITS FALSE NEIGHBOUR: 'it returns false'. Refute it at one input. -/
def clientTriesWrong : ChangeSpec := { name := "clientTries", fn := fun _ => fun
  | [d1, d2, d3] => { results := [.lit (.bool false)], args := [d1, d2, d3] }
  | _ => none }
def ClientTriesWrongFalsely : Prop := clientTriesRow.holds Try.pinned (OpenSpec.ofChange clientTriesWrong)

/-- 'courierlaw23.ClientFloors': WHATEVER THE INPUT: true; the input reads as it did. -/
def clientFloorsSpec : ChangeSpec := { name := "clientFloors", fn := fun _ => fun
  | [d] => { results := [.lit (.bool true)], args := [d] }
  | _ => none }
def clientFloorsRow : OpenClaim := { program := "ytepjnmocepkfjaa", sum := "6005c861b87f9270448cbe4958a3a2e794f6a8ec04f4093a2680f699977ce4e2", func := "courier/courierlaw23.ClientFloors", spec := "clientFloors", unfollowed := true, recurses := true, apart := false }
def ClientFloorsSaid : Prop := clientFloorsRow.holds Try.pinned (OpenSpec.ofChange clientFloorsSpec)

/-- ITS FALSE NEIGHBOUR: 'it returns false'. Refute it at one input. -/
def clientFloorsWrong : ChangeSpec := { name := "clientFloors", fn := fun _ => fun
  | [d] => { results := [.lit (.bool false)], args := [d] }
  | _ => none }
def ClientFloorsWrongFalsely : Prop := clientFloorsRow.holds Try.pinned (OpenSpec.ofChange clientFloorsWrong)

/-- 'courierlaw23.ClientOnce': WHATEVER THE INPUT: true; the input reads as it did. -/
def clientOnceSpec : ChangeSpec := { name := "clientOnce", fn := fun _ => fun
  | [d] => { results := [.lit (.bool true)], args := [d] }
  | _ => none }
def clientOnceRow : OpenClaim := { program := "ytepjnmocepkfjaa", sum := "6005c861b87f9270448cbe4958a3a2e794f6a8ec04f4093a2680f699977ce4e2", func := "courier/courierlaw23.ClientOnce", spec := "clientOnce", unfollowed := true, recurses := true, apart := false }
def ClientOnceSaid : Prop := clientOnceRow.holds Try.pinned (OpenSpec.ofChange clientOnceSpec)

/-- ITS FALSE NEIGHBOUR: 'it returns false'. Refute it at one input. -/
def clientOnceWrong : ChangeSpec := { name := "clientOnce", fn := fun _ => fun
  | [d] => { results := [.lit (.bool false)], args := [d] }
  | _ => none }
def ClientOnceWrongFalsely : Prop := clientOnceRow.holds Try.pinned (OpenSpec.ofChange clientOnceWrong)

/-- 'courierlaw23.ClientPlays': WHATEVER THE INPUT: true; the input reads as it did. -/
def clientPlaysSpec : ChangeSpec := { name := "clientPlays", fn := fun _ => fun
  | [d1, d2] => { results := [.lit (.bool true)], args := [d1, d2] }
  | _ => none }
def clientPlaysRow : OpenClaim := { program := "ytepjnmocepkfjaa", sum := "6005c861b87f9270448cbe4958a3a2e794f6a8ec04f4093a2680f699977ce4e2", func := "courier/courierlaw23.ClientPlays", spec := "clientPlays", unfollowed := true, recurses := true, apart := false }
def ClientPlaysSaid : Prop := clientPlaysRow.holds Try.pinned (OpenSpec.ofChange clientPlaysSpec)

/-- ITS FALSE NEIGHBOUR: 'it returns false'. Refute it at one input. -/
def clientPlaysWrong : ChangeSpec := { name := "clientPlays", fn := fun _ => fun
  | [d1, d2] => { results := [.lit (.bool false)], args := [d1, d2] }
  | _ => none }
def ClientPlaysWrongFalsely : Prop := clientPlaysRow.holds Try.pinned (OpenSpec.ofChange clientPlaysWrong)

/-- 'courierlaw23.ClientNil': WHATEVER THE INPUT: true; the input reads as it did. -/
def clientNilSpec : ChangeSpec := { name := "clientNil", fn := fun _ => fun
  | [d] => { results := [.lit (.bool true)], args := [d] }
  | _ => none }
def clientNilRow : OpenClaim := { program := "ytepjnmocepkfjaa", sum := "6005c861b87f9270448cbe4958a3a2e794f6a8ec04f4093a2680f699977ce4e2", func := "courier/courierlaw23.ClientNil", spec := "clientNil", unfollowed := true, recurses := true, apart := false }
def ClientNilSaid : Prop := clientNilRow.holds Try.pinned (OpenSpec.ofChange clientNilSpec)

/-- ITS FALSE NEIGHBOUR: 'it returns false'. Refute it at one input. -/
def clientNilWrong : ChangeSpec := { name := "clientNil", fn := fun _ => fun
  | [d] => { results := [.lit (.bool false)], args := [d] }
  | _ => none }
def ClientNilWrongFalsely : Prop := clientNilRow.holds Try.pinned (OpenSpec.ofChange clientNilWrong)

/- THE SECOND FORM. 'bulk': how many values and letters a reading holds, each counted each time it is reached (what is shared counts as often as it is met; a slice's spare places count too). A statement '..UptoSaid' is the law's where the arguments, and the package variables that the reading takes, are together of bulk at most 1048576: NARROWER than '..Said'. Prove '..Said' where nothing that the law and all that it calls make is longer than what came in: it says more and counts as full. Else prove '..UptoSaid'. A law counts once. -/
mutual
def uptoBulk {H : Type} : DataW H → Nat
  | .lit (.string bytes) => bytes.length + 1
  | .lit _ => 1
  | .nil => 1
  | .ptr d => uptoBulk d + 1
  | .slice elems spare => uptoBulkAll elems + uptoBulkAll spare + 1
  | .agg parts => uptoBulkAll parts + 1
  | .iface _ d => uptoBulk d + 1
  | .map entries => uptoBulkEntries entries + 1
  | .held _ => 1
def uptoBulkAll {H : Type} : List (DataW H) → Nat
  | [] => 0
  | d :: r => uptoBulk d + uptoBulkAll r
def uptoBulkEntries {H : Type} : List (Lit × DataW H) → Nat
  | [] => 0
  | x :: r => uptoBulkEntry x + uptoBulkEntries r
def uptoBulkEntry {H : Type} : Lit × DataW H → Nat
  | (.string bytes, d) => bytes.length + uptoBulk d + 1
  | (_, d) => uptoBulk d + 1
 end
def uptoSmall : (H : Type) → List (DataW H) → Bool := fun _ ds => decide (uptoBulkAll ds ≤ 1048576)
def OpenSpec.upto (s : _root_.Go.ChangeSpec) : _root_.Go.OpenSpec := { _root_.Go.OpenSpec.ofChange s with cond := some uptoSmall }

/-- 'courierlaw23.ClientFull', WHERE WHAT IT READS IS OF BULK AT MOST 1048576: true; the input reads as it did. -/
def clientFullUptoRow : OpenClaim := { program := "ytepjnmocepkfjaa", sum := "6005c861b87f9270448cbe4958a3a2e794f6a8ec04f4093a2680f699977ce4e2", func := "courier/courierlaw23.ClientFull", spec := "clientFull", unfollowed := true, recurses := true, apart := false, narrowed := true }
def ClientFullUptoSaid : Prop := clientFullUptoRow.holds Try.pinned (OpenSpec.upto clientFullSpec)

/-- 'courierlaw23.ClientTries', WHERE WHAT IT READS IS OF BULK AT MOST 1048576: true; the input reads as it did. -/
def clientTriesUptoRow : OpenClaim := { program := "ytepjnmocepkfjaa", sum := "6005c861b87f9270448cbe4958a3a2e794f6a8ec04f4093a2680f699977ce4e2", func := "courier/courierlaw23.ClientTries", spec := "clientTries", unfollowed := true, recurses := true, apart := false, narrowed := true }
def ClientTriesUptoSaid : Prop := clientTriesUptoRow.holds Try.pinned (OpenSpec.upto clientTriesSpec)

/-- 'courierlaw23.ClientFloors', WHERE WHAT IT READS IS OF BULK AT MOST 1048576: true; the input reads as it did. -/
def clientFloorsUptoRow : OpenClaim := { program := "ytepjnmocepkfjaa", sum := "6005c861b87f9270448cbe4958a3a2e794f6a8ec04f4093a2680f699977ce4e2", func := "courier/courierlaw23.ClientFloors", spec := "clientFloors", unfollowed := true, recurses := true, apart := false, narrowed := true }
def ClientFloorsUptoSaid : Prop := clientFloorsUptoRow.holds Try.pinned (OpenSpec.upto clientFloorsSpec)

/-- 'courierlaw23.ClientOnce', WHERE WHAT IT READS IS OF BULK AT MOST 1048576: true; the input reads as it did. -/
def clientOnceUptoRow : OpenClaim := { program := "ytepjnmocepkfjaa", sum := "6005c861b87f9270448cbe4958a3a2e794f6a8ec04f4093a2680f699977ce4e2", func := "courier/courierlaw23.ClientOnce", spec := "clientOnce", unfollowed := true, recurses := true, apart := false, narrowed := true }
def ClientOnceUptoSaid : Prop := clientOnceUptoRow.holds Try.pinned (OpenSpec.upto clientOnceSpec)

/-- 'courierlaw23.ClientPlays', WHERE WHAT IT READS IS OF BULK AT MOST 1048576: true; the input reads as it did. -/
def clientPlaysUptoRow : OpenClaim := { program := "ytepjnmocepkfjaa", sum := "6005c861b87f9270448cbe4958a3a2e794f6a8ec04f4093a2680f699977ce4e2", func := "courier/courierlaw23.ClientPlays", spec := "clientPlays", unfollowed := true, recurses := true, apart := false, narrowed := true }
def ClientPlaysUptoSaid : Prop := clientPlaysUptoRow.holds Try.pinned (OpenSpec.upto clientPlaysSpec)

/-- 'courierlaw23.ClientNil', WHERE WHAT IT READS IS OF BULK AT MOST 1048576: true; the input reads as it did. -/
def clientNilUptoRow : OpenClaim := { program := "ytepjnmocepkfjaa", sum := "6005c861b87f9270448cbe4958a3a2e794f6a8ec04f4093a2680f699977ce4e2", func := "courier/courierlaw23.ClientNil", spec := "clientNil", unfollowed := true, recurses := true, apart := false, narrowed := true }
def ClientNilUptoSaid : Prop := clientNilUptoRow.holds Try.pinned (OpenSpec.upto clientNilSpec)

end Rows
end Go.Proofs.Ytepjnmocepkfjaa
