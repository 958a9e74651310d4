/-
  No cell of these rows narrows 'for every input' (looked for: loops, veiled, ifaces, maps, wideKeys, modest, calm, conditions, laid).
  DERIVED. THE GIVEN ROWS OF THIS SEAT. 15 by the template 'for every input the law returns true; each argument reads behind the call as it read before'; 0 by the template 'total and deterministic' (their statements: YtdconcindpfmcaaTotals.lean).
  GIVEN WITH THE SEED: the statements are not yours to turn. If you find one false, say at which input.
  Laid BY PROGRAM, IN A SANDBOX (cutbox-rows.mjs): the forced cells as the released guide's own fill.sh prints them over the translation f75c39feec4eee39… (all of the seat's roots in one cut). By AI agents, Wed Nov 11 2026. No macro, syntax, notation, axiom, sorry.
-/
import Derived.Test.YtdconcindpfmcaaChecked
import GoSem.Claim
import GoSem.ClaimJoined
import GoSem.ClaimMapViews
import Derived.JoinedTies
import Derived.KernelRfl
namespace Go.Proofs.Ytdconcindpfmcaa
/- THE CELL 'sum', in the pinned program and in every row, IS THE sha256 OF THE DUMP (.gsa) THAT YtdconcindpfmcaaProg.lean LOADS. Nothing in Lean hashes anything: it is a label: what it is worth is what the hold of that sum in a sandbox is worth. -/
noncomputable def Try.pinned : Pinned := { name := "ytdconcindpfmcaa", sum := "f75c39feec4eee39c18d1c8883446f92d67728b4ca09fef604b46c1d1dcac7e1", checked := Try.checked }
namespace Rows
def none {H : Type} : Left H := { results := [], args := [] }

/-- 'courierlaw16.BackoffDelays': WHATEVER THE INPUT: true; the input reads as it did. -/
def backoffDelaysSpec : ChangeSpec := { name := "backoffDelays", fn := fun _ => fun
  | [d] => { results := [.lit (.bool true)], args := [d] }
  | _ => none }
def backoffDelaysRow : OpenClaim := { program := "ytdconcindpfmcaa", sum := "f75c39feec4eee39c18d1c8883446f92d67728b4ca09fef604b46c1d1dcac7e1", func := "courier/courierlaw16.BackoffDelays", spec := "backoffDelays", recurses := true, apart := false }
def BackoffDelaysSaid : Prop := backoffDelaysRow.holds Try.pinned (OpenSpec.ofChange backoffDelaysSpec)

/-- ITS FALSE NEIGHBOUR: 'it returns false'. Refute it at one input. -/
def backoffDelaysWrong : ChangeSpec := { name := "backoffDelays", fn := fun _ => fun
  | [d] => { results := [.lit (.bool false)], args := [d] }
  | _ => none }
def BackoffDelaysWrongFalsely : Prop := backoffDelaysRow.holds Try.pinned (OpenSpec.ofChange backoffDelaysWrong)

/-- 'courierlaw16.BackoffRises': WHATEVER THE INPUT: true; the input reads as it did. -/
def backoffRisesSpec : ChangeSpec := { name := "backoffRises", fn := fun _ => fun
  | [d] => { results := [.lit (.bool true)], args := [d] }
  | _ => none }
def backoffRisesRow : OpenClaim := { program := "ytdconcindpfmcaa", sum := "f75c39feec4eee39c18d1c8883446f92d67728b4ca09fef604b46c1d1dcac7e1", func := "courier/courierlaw16.BackoffRises", spec := "backoffRises", recurses := true, apart := false }
def BackoffRisesSaid : Prop := backoffRisesRow.holds Try.pinned (OpenSpec.ofChange backoffRisesSpec)

/-- ITS FALSE NEIGHBOUR: 'it returns false'. Refute it at one input. -/
def backoffRisesWrong : ChangeSpec := { name := "backoffRises", fn := fun _ => fun
  | [d] => { results := [.lit (.bool false)], args := [d] }
  | _ => none }
def BackoffRisesWrongFalsely : Prop := backoffRisesRow.holds Try.pinned (OpenSpec.ofChange backoffRisesWrong)

/-- 'courierlaw16.BackoffAttempts': WHATEVER THE INPUT: true; the input reads as it did. -/
def backoffAttemptsSpec : ChangeSpec := { name := "backoffAttempts", fn := fun _ => fun
  | [d1, d2] => { results := [.lit (.bool true)], args := [d1, d2] }
  | _ => none }
def backoffAttemptsRow : OpenClaim := { program := "ytdconcindpfmcaa", sum := "f75c39feec4eee39c18d1c8883446f92d67728b4ca09fef604b46c1d1dcac7e1", func := "courier/courierlaw16.BackoffAttempts", spec := "backoffAttempts", recurses := true, apart := false }
def BackoffAttemptsSaid : Prop := backoffAttemptsRow.holds Try.pinned (OpenSpec.ofChange backoffAttemptsSpec)

/-- ITS FALSE NEIGHBOUR: 'it returns false'. Refute it at one input. -/
def backoffAttemptsWrong : ChangeSpec := { name := "backoffAttempts", fn := fun _ => fun
  | [d1, d2] => { results := [.lit (.bool false)], args := [d1, d2] }
  | _ => none }
def BackoffAttemptsWrongFalsely : Prop := backoffAttemptsRow.holds Try.pinned (OpenSpec.ofChange backoffAttemptsWrong)

/-- 'courierlaw18.NetOrders': WHATEVER THE INPUT: true; the input reads as it did. -/
def netOrdersSpec : ChangeSpec := { name := "netOrders", fn := fun _ => fun
  | [d1, d2] => { results := [.lit (.bool true)], args := [d1, d2] }
  | _ => none }
def netOrdersRow : OpenClaim := { program := "ytdconcindpfmcaa", sum := "f75c39feec4eee39c18d1c8883446f92d67728b4ca09fef604b46c1d1dcac7e1", func := "courier/courierlaw18.NetOrders", spec := "netOrders", apart := false }
def NetOrdersSaid : Prop := netOrdersRow.holds Try.pinned (OpenSpec.ofChange netOrdersSpec)

/-- ITS FALSE NEIGHBOUR: 'it returns false'. Refute it at one input. -/
def netOrdersWrong : ChangeSpec := { name := "netOrders", fn := fun _ => fun
  | [d1, d2] => { results := [.lit (.bool false)], args := [d1, d2] }
  | _ => none }
def NetOrdersWrongFalsely : Prop := netOrdersRow.holds Try.pinned (OpenSpec.ofChange netOrdersWrong)

/-- 'courierlaw18.NetFull': WHATEVER THE INPUT: true; the input reads as it did. -/
def netFullSpec : ChangeSpec := { name := "netFull", fn := fun _ => fun
  | [d1, d2] => { results := [.lit (.bool true)], args := [d1, d2] }
  | _ => none }
def netFullRow : OpenClaim := { program := "ytdconcindpfmcaa", sum := "f75c39feec4eee39c18d1c8883446f92d67728b4ca09fef604b46c1d1dcac7e1", func := "courier/courierlaw18.NetFull", spec := "netFull", apart := false }
def NetFullSaid : Prop := netFullRow.holds Try.pinned (OpenSpec.ofChange netFullSpec)

/-- ITS FALSE NEIGHBOUR: 'it returns false'. Refute it at one input. -/
def netFullWrong : ChangeSpec := { name := "netFull", fn := fun _ => fun
  | [d1, d2] => { results := [.lit (.bool false)], args := [d1, d2] }
  | _ => none }
def NetFullWrongFalsely : Prop := netFullRow.holds Try.pinned (OpenSpec.ofChange netFullWrong)

/-- 'courierlaw19.DedupRoom': WHATEVER THE INPUT: true; the input reads as it did. -/
def dedupRoomSpec : ChangeSpec := { name := "dedupRoom", fn := fun _ => fun
  | [d1, d2, d3] => { results := [.lit (.bool true)], args := [d1, d2, d3] }
  | _ => none }
def dedupRoomRow : OpenClaim := { program := "ytdconcindpfmcaa", sum := "f75c39feec4eee39c18d1c8883446f92d67728b4ca09fef604b46c1d1dcac7e1", func := "courier/courierlaw19.DedupRoom", spec := "dedupRoom", unfollowed := true, recurses := true, apart := false }
def DedupRoomSaid : Prop := dedupRoomRow.holds Try.pinned (OpenSpec.ofChange dedupRoomSpec)

/-- ITS FALSE NEIGHBOUR: 'it returns false'. Refute it at one input. -/
def dedupRoomWrong : ChangeSpec := { name := "dedupRoom", fn := fun _ => fun
  | [d1, d2, d3] => { results := [.lit (.bool false)], args := [d1, d2, d3] }
  | _ => none }
def DedupRoomWrongFalsely : Prop := dedupRoomRow.holds Try.pinned (OpenSpec.ofChange dedupRoomWrong)

/-- 'courierlaw18.NetKeeps': WHATEVER THE INPUT: true; the input reads as it did. -/
def netKeepsSpec : ChangeSpec := { name := "netKeeps", fn := fun _ => fun
  | [d1, d2, d3] => { results := [.lit (.bool true)], args := [d1, d2, d3] }
  | _ => none }
def netKeepsRow : OpenClaim := { program := "ytdconcindpfmcaa", sum := "f75c39feec4eee39c18d1c8883446f92d67728b4ca09fef604b46c1d1dcac7e1", func := "courier/courierlaw18.NetKeeps", spec := "netKeeps", apart := false }
def NetKeepsSaid : Prop := netKeepsRow.holds Try.pinned (OpenSpec.ofChange netKeepsSpec)

/-- ITS FALSE NEIGHBOUR: 'it returns false'. Refute it at one input. -/
def netKeepsWrong : ChangeSpec := { name := "netKeeps", fn := fun _ => fun
  | [d1, d2, d3] => { results := [.lit (.bool false)], args := [d1, d2, d3] }
  | _ => none }
def NetKeepsWrongFalsely : Prop := netKeepsRow.holds Try.pinned (OpenSpec.ofChange netKeepsWrong)

/-- 'courierlaw19.DedupOnce': WHATEVER THE INPUT: true; the input reads as it did. -/
def dedupOnceSpec : ChangeSpec := { name := "dedupOnce", fn := fun _ => fun
  | [d] => { results := [.lit (.bool true)], args := [d] }
  | _ => none }
def dedupOnceRow : OpenClaim := { program := "ytdconcindpfmcaa", sum := "f75c39feec4eee39c18d1c8883446f92d67728b4ca09fef604b46c1d1dcac7e1", func := "courier/courierlaw19.DedupOnce", spec := "dedupOnce", unfollowed := true, recurses := true, apart := false }
def DedupOnceSaid : Prop := dedupOnceRow.holds Try.pinned (OpenSpec.ofChange dedupOnceSpec)

/-- ITS FALSE NEIGHBOUR: 'it returns false'. Refute it at one input. -/
def dedupOnceWrong : ChangeSpec := { name := "dedupOnce", fn := fun _ => fun
  | [d] => { results := [.lit (.bool false)], args := [d] }
  | _ => none }
def DedupOnceWrongFalsely : Prop := dedupOnceRow.holds Try.pinned (OpenSpec.ofChange dedupOnceWrong)

/-- 'courierlaw17.TimerSorts': WHATEVER THE INPUT: true; the input reads as it did. -/
def timerSortsSpec : ChangeSpec := { name := "timerSorts", fn := fun _ => fun
  | [d1, d2] => { results := [.lit (.bool true)], args := [d1, d2] }
  | _ => none }
def timerSortsRow : OpenClaim := { program := "ytdconcindpfmcaa", sum := "f75c39feec4eee39c18d1c8883446f92d67728b4ca09fef604b46c1d1dcac7e1", func := "courier/courierlaw17.TimerSorts", spec := "timerSorts", unfollowed := true, recurses := true, apart := false }
def TimerSortsSaid : Prop := timerSortsRow.holds Try.pinned (OpenSpec.ofChange timerSortsSpec)

/-- ITS FALSE NEIGHBOUR: 'it returns false'. Refute it at one input. -/
def timerSortsWrong : ChangeSpec := { name := "timerSorts", fn := fun _ => fun
  | [d1, d2] => { results := [.lit (.bool false)], args := [d1, d2] }
  | _ => none }
def TimerSortsWrongFalsely : Prop := timerSortsRow.holds Try.pinned (OpenSpec.ofChange timerSortsWrong)

/-- 'courierlaw17.TimerPlays': WHATEVER THE INPUT: true; the input reads as it did. -/
def timerPlaysSpec : ChangeSpec := { name := "timerPlays", fn := fun _ => fun
  | [d1, d2] => { results := [.lit (.bool true)], args := [d1, d2] }
  | _ => none }
def timerPlaysRow : OpenClaim := { program := "ytdconcindpfmcaa", sum := "f75c39feec4eee39c18d1c8883446f92d67728b4ca09fef604b46c1d1dcac7e1", func := "courier/courierlaw17.TimerPlays", spec := "timerPlays", unfollowed := true, recurses := true, apart := false }
def TimerPlaysSaid : Prop := timerPlaysRow.holds Try.pinned (OpenSpec.ofChange timerPlaysSpec)

/-- ITS FALSE NEIGHBOUR: 'it returns false'. Refute it at one input. -/
def timerPlaysWrong : ChangeSpec := { name := "timerPlays", fn := fun _ => fun
  | [d1, d2] => { results := [.lit (.bool false)], args := [d1, d2] }
  | _ => none }
def TimerPlaysWrongFalsely : Prop := timerPlaysRow.holds Try.pinned (OpenSpec.ofChange timerPlaysWrong)

/-- 'courierlaw17.TimerNil': WHATEVER THE INPUT: true; the input reads as it did. -/
def timerNilSpec : ChangeSpec := { name := "timerNil", fn := fun _ => fun
  | [d1, d2] => { results := [.lit (.bool true)], args := [d1, d2] }
  | _ => none }
def timerNilRow : OpenClaim := { program := "ytdconcindpfmcaa", sum := "f75c39feec4eee39c18d1c8883446f92d67728b4ca09fef604b46c1d1dcac7e1", func := "courier/courierlaw17.TimerNil", spec := "timerNil", unfollowed := true, recurses := true, apart := false }
def TimerNilSaid : Prop := timerNilRow.holds Try.pinned (OpenSpec.ofChange timerNilSpec)

/-- ITS FALSE NEIGHBOUR: 'it returns false'. Refute it at one input. -/
def timerNilWrong : ChangeSpec := { name := "timerNil", fn := fun _ => fun
  | [d1, d2] => { results := [.lit (.bool false)], args := [d1, d2] }
  | _ => none }
def TimerNilWrongFalsely : Prop := timerNilRow.holds Try.pinned (OpenSpec.ofChange timerNilWrong)

/-- 'courierlaw18.NetPlays': WHATEVER THE INPUT: true; the input reads as it did. -/
def netPlaysSpec : ChangeSpec := { name := "netPlays", fn := fun _ => fun
  | [d1, d2] => { results := [.lit (.bool true)], args := [d1, d2] }
  | _ => none }
def netPlaysRow : OpenClaim := { program := "ytdconcindpfmcaa", sum := "f75c39feec4eee39c18d1c8883446f92d67728b4ca09fef604b46c1d1dcac7e1", func := "courier/courierlaw18.NetPlays", spec := "netPlays", inPlace := ["slices.overlaps[courier/net.Packet]"], apart := false }
def NetPlaysSaid : Prop := netPlaysRow.holds Try.pinned (OpenSpec.ofChange netPlaysSpec)

/-- ITS FALSE NEIGHBOUR: 'it returns false'. Refute it at one input. -/
def netPlaysWrong : ChangeSpec := { name := "netPlays", fn := fun _ => fun
  | [d1, d2] => { results := [.lit (.bool false)], args := [d1, d2] }
  | _ => none }
def NetPlaysWrongFalsely : Prop := netPlaysRow.holds Try.pinned (OpenSpec.ofChange netPlaysWrong)

/-- 'courierlaw18.NetNil': WHATEVER THE INPUT: true; the input reads as it did. -/
def netNilSpec : ChangeSpec := { name := "netNil", fn := fun _ => fun
  | [d] => { results := [.lit (.bool true)], args := [d] }
  | _ => none }
def netNilRow : OpenClaim := { program := "ytdconcindpfmcaa", sum := "f75c39feec4eee39c18d1c8883446f92d67728b4ca09fef604b46c1d1dcac7e1", func := "courier/courierlaw18.NetNil", spec := "netNil", inPlace := ["slices.overlaps[courier/net.Packet]"], apart := false }
def NetNilSaid : Prop := netNilRow.holds Try.pinned (OpenSpec.ofChange netNilSpec)

/-- ITS FALSE NEIGHBOUR: 'it returns false'. Refute it at one input. -/
def netNilWrong : ChangeSpec := { name := "netNil", fn := fun _ => fun
  | [d] => { results := [.lit (.bool false)], args := [d] }
  | _ => none }
def NetNilWrongFalsely : Prop := netNilRow.holds Try.pinned (OpenSpec.ofChange netNilWrong)

/-- 'courierlaw19.DedupReplays': WHATEVER THE INPUT: true; the input reads as it did. -/
def dedupReplaysSpec : ChangeSpec := { name := "dedupReplays", fn := fun _ => fun
  | [d1, d2, d3, d4, d5, d6] => { results := [.lit (.bool true)], args := [d1, d2, d3, d4, d5, d6] }
  | _ => none }
def dedupReplaysRow : OpenClaim := { program := "ytdconcindpfmcaa", sum := "f75c39feec4eee39c18d1c8883446f92d67728b4ca09fef604b46c1d1dcac7e1", func := "courier/courierlaw19.DedupReplays", spec := "dedupReplays", unfollowed := true, recurses := true, apart := false }
def DedupReplaysSaid : Prop := dedupReplaysRow.holds Try.pinned (OpenSpec.ofChange dedupReplaysSpec)

/-- ITS FALSE NEIGHBOUR: 'it returns false'. Refute it at one input. -/
def dedupReplaysWrong : ChangeSpec := { name := "dedupReplays", fn := fun _ => fun
  | [d1, d2, d3, d4, d5, d6] => { results := [.lit (.bool false)], args := [d1, d2, d3, d4, d5, d6] }
  | _ => none }
def DedupReplaysWrongFalsely : Prop := dedupReplaysRow.holds Try.pinned (OpenSpec.ofChange dedupReplaysWrong)

/-- 'courierlaw19.DedupNil': WHATEVER THE INPUT: true; the input reads as it did. -/
def dedupNilSpec : ChangeSpec := { name := "dedupNil", fn := fun _ => fun
  | [d] => { results := [.lit (.bool true)], args := [d] }
  | _ => none }
def dedupNilRow : OpenClaim := { program := "ytdconcindpfmcaa", sum := "f75c39feec4eee39c18d1c8883446f92d67728b4ca09fef604b46c1d1dcac7e1", func := "courier/courierlaw19.DedupNil", spec := "dedupNil", unfollowed := true, recurses := true, apart := false }
def DedupNilSaid : Prop := dedupNilRow.holds Try.pinned (OpenSpec.ofChange dedupNilSpec)

/-- ITS FALSE NEIGHBOUR: 'it returns false'. Refute it at one input. -/
def dedupNilWrong : ChangeSpec := { name := "dedupNil", fn := fun _ => fun
  | [d] => { results := [.lit (.bool false)], args := [d] }
  | _ => none }
def DedupNilWrongFalsely : Prop := dedupNilRow.holds Try.pinned (OpenSpec.ofChange dedupNilWrong)

/- THE SECOND FORM. 'bulk': how many values and letters a reading holds, each counted each time it is reached (what is shared counts as often as it is met; a slice's spare places count too). A statement '..UptoSaid' is the law's where the arguments, and the package variables that the reading takes, are together of bulk at most 1048576: NARROWER than '..Said'. Prove '..Said' where nothing that the law and all that it calls make is longer than what came in: it says more and counts as full. Else prove '..UptoSaid'. A law counts once. -/
mutual
def uptoBulk {H : Type} : DataW H → Nat
  | .lit (.string bytes) => bytes.length + 1
  | .lit _ => 1
  | .nil => 1
  | .ptr d => uptoBulk d + 1
  | .slice elems spare => uptoBulkAll elems + uptoBulkAll spare + 1
  | .agg parts => uptoBulkAll parts + 1
  | .iface _ d => uptoBulk d + 1
  | .map entries => uptoBulkEntries entries + 1
  | .held _ => 1
def uptoBulkAll {H : Type} : List (DataW H) → Nat
  | [] => 0
  | d :: r => uptoBulk d + uptoBulkAll r
def uptoBulkEntries {H : Type} : List (Lit × DataW H) → Nat
  | [] => 0
  | x :: r => uptoBulkEntry x + uptoBulkEntries r
def uptoBulkEntry {H : Type} : Lit × DataW H → Nat
  | (.string bytes, d) => bytes.length + uptoBulk d + 1
  | (_, d) => uptoBulk d + 1
 end
def uptoSmall : (H : Type) → List (DataW H) → Bool := fun _ ds => decide (uptoBulkAll ds ≤ 1048576)
def OpenSpec.upto (s : _root_.Go.ChangeSpec) : _root_.Go.OpenSpec := { _root_.Go.OpenSpec.ofChange s with cond := some uptoSmall }

/-- 'courierlaw16.BackoffDelays', WHERE WHAT IT READS IS OF BULK AT MOST 1048576: true; the input reads as it did. -/
def backoffDelaysUptoRow : OpenClaim := { program := "ytdconcindpfmcaa", sum := "f75c39feec4eee39c18d1c8883446f92d67728b4ca09fef604b46c1d1dcac7e1", func := "courier/courierlaw16.BackoffDelays", spec := "backoffDelays", recurses := true, apart := false, narrowed := true }
def BackoffDelaysUptoSaid : Prop := backoffDelaysUptoRow.holds Try.pinned (OpenSpec.upto backoffDelaysSpec)

/-- 'courierlaw16.BackoffRises', WHERE WHAT IT READS IS OF BULK AT MOST 1048576: true; the input reads as it did. -/
def backoffRisesUptoRow : OpenClaim := { program := "ytdconcindpfmcaa", sum := "f75c39feec4eee39c18d1c8883446f92d67728b4ca09fef604b46c1d1dcac7e1", func := "courier/courierlaw16.BackoffRises", spec := "backoffRises", recurses := true, apart := false, narrowed := true }
def BackoffRisesUptoSaid : Prop := backoffRisesUptoRow.holds Try.pinned (OpenSpec.upto backoffRisesSpec)

/-- 'courierlaw16.BackoffAttempts', WHERE WHAT IT READS IS OF BULK AT MOST 1048576: true; the input reads as it did. -/
def backoffAttemptsUptoRow : OpenClaim := { program := "ytdconcindpfmcaa", sum := "f75c39feec4eee39c18d1c8883446f92d67728b4ca09fef604b46c1d1dcac7e1", func := "courier/courierlaw16.BackoffAttempts", spec := "backoffAttempts", recurses := true, apart := false, narrowed := true }
def BackoffAttemptsUptoSaid : Prop := backoffAttemptsUptoRow.holds Try.pinned (OpenSpec.upto backoffAttemptsSpec)

/-- 'courierlaw18.NetOrders', WHERE WHAT IT READS IS OF BULK AT MOST 1048576: true; the input reads as it did. -/
def netOrdersUptoRow : OpenClaim := { program := "ytdconcindpfmcaa", sum := "f75c39feec4eee39c18d1c8883446f92d67728b4ca09fef604b46c1d1dcac7e1", func := "courier/courierlaw18.NetOrders", spec := "netOrders", apart := false, narrowed := true }
def NetOrdersUptoSaid : Prop := netOrdersUptoRow.holds Try.pinned (OpenSpec.upto netOrdersSpec)

/-- 'courierlaw18.NetFull', WHERE WHAT IT READS IS OF BULK AT MOST 1048576: true; the input reads as it did. -/
def netFullUptoRow : OpenClaim := { program := "ytdconcindpfmcaa", sum := "f75c39feec4eee39c18d1c8883446f92d67728b4ca09fef604b46c1d1dcac7e1", func := "courier/courierlaw18.NetFull", spec := "netFull", apart := false, narrowed := true }
def NetFullUptoSaid : Prop := netFullUptoRow.holds Try.pinned (OpenSpec.upto netFullSpec)

/-- 'courierlaw19.DedupRoom', WHERE WHAT IT READS IS OF BULK AT MOST 1048576: true; the input reads as it did. -/
def dedupRoomUptoRow : OpenClaim := { program := "ytdconcindpfmcaa", sum := "f75c39feec4eee39c18d1c8883446f92d67728b4ca09fef604b46c1d1dcac7e1", func := "courier/courierlaw19.DedupRoom", spec := "dedupRoom", unfollowed := true, recurses := true, apart := false, narrowed := true }
def DedupRoomUptoSaid : Prop := dedupRoomUptoRow.holds Try.pinned (OpenSpec.upto dedupRoomSpec)

/-- 'courierlaw18.NetKeeps', WHERE WHAT IT READS IS OF BULK AT MOST 1048576: true; the input reads as it did. -/
def netKeepsUptoRow : OpenClaim := { program := "ytdconcindpfmcaa", sum := "f75c39feec4eee39c18d1c8883446f92d67728b4ca09fef604b46c1d1dcac7e1", func := "courier/courierlaw18.NetKeeps", spec := "netKeeps", apart := false, narrowed := true }
def NetKeepsUptoSaid : Prop := netKeepsUptoRow.holds Try.pinned (OpenSpec.upto netKeepsSpec)

/-- 'courierlaw19.DedupOnce', WHERE WHAT IT READS IS OF BULK AT MOST 1048576: true; the input reads as it did. -/
def dedupOnceUptoRow : OpenClaim := { program := "ytdconcindpfmcaa", sum := "f75c39feec4eee39c18d1c8883446f92d67728b4ca09fef604b46c1d1dcac7e1", func := "courier/courierlaw19.DedupOnce", spec := "dedupOnce", unfollowed := true, recurses := true, apart := false, narrowed := true }
def DedupOnceUptoSaid : Prop := dedupOnceUptoRow.holds Try.pinned (OpenSpec.upto dedupOnceSpec)

/-- 'courierlaw17.TimerSorts', WHERE WHAT IT READS IS OF BULK AT MOST 1048576: true; the input reads as it did. -/
def timerSortsUptoRow : OpenClaim := { program := "ytdconcindpfmcaa", sum := "f75c39feec4eee39c18d1c8883446f92d67728b4ca09fef604b46c1d1dcac7e1", func := "courier/courierlaw17.TimerSorts", spec := "timerSorts", unfollowed := true, recurses := true, apart := false, narrowed := true }
def TimerSortsUptoSaid : Prop := timerSortsUptoRow.holds Try.pinned (OpenSpec.upto timerSortsSpec)

/-- 'courierlaw17.TimerPlays', WHERE WHAT IT READS IS OF BULK AT MOST 1048576: true; the input reads as it did. -/
def timerPlaysUptoRow : OpenClaim := { program := "ytdconcindpfmcaa", sum := "f75c39feec4eee39c18d1c8883446f92d67728b4ca09fef604b46c1d1dcac7e1", func := "courier/courierlaw17.TimerPlays", spec := "timerPlays", unfollowed := true, recurses := true, apart := false, narrowed := true }
def TimerPlaysUptoSaid : Prop := timerPlaysUptoRow.holds Try.pinned (OpenSpec.upto timerPlaysSpec)

/-- 'courierlaw17.TimerNil', WHERE WHAT IT READS IS OF BULK AT MOST 1048576: true; the input reads as it did. -/
def timerNilUptoRow : OpenClaim := { program := "ytdconcindpfmcaa", sum := "f75c39feec4eee39c18d1c8883446f92d67728b4ca09fef604b46c1d1dcac7e1", func := "courier/courierlaw17.TimerNil", spec := "timerNil", unfollowed := true, recurses := true, apart := false, narrowed := true }
def TimerNilUptoSaid : Prop := timerNilUptoRow.holds Try.pinned (OpenSpec.upto timerNilSpec)

/-- 'courierlaw18.NetPlays', WHERE WHAT IT READS IS OF BULK AT MOST 1048576: true; the input reads as it did. -/
def netPlaysUptoRow : OpenClaim := { program := "ytdconcindpfmcaa", sum := "f75c39feec4eee39c18d1c8883446f92d67728b4ca09fef604b46c1d1dcac7e1", func := "courier/courierlaw18.NetPlays", spec := "netPlays", inPlace := ["slices.overlaps[courier/net.Packet]"], apart := false, narrowed := true }
def NetPlaysUptoSaid : Prop := netPlaysUptoRow.holds Try.pinned (OpenSpec.upto netPlaysSpec)

/-- 'courierlaw18.NetNil', WHERE WHAT IT READS IS OF BULK AT MOST 1048576: true; the input reads as it did. -/
def netNilUptoRow : OpenClaim := { program := "ytdconcindpfmcaa", sum := "f75c39feec4eee39c18d1c8883446f92d67728b4ca09fef604b46c1d1dcac7e1", func := "courier/courierlaw18.NetNil", spec := "netNil", inPlace := ["slices.overlaps[courier/net.Packet]"], apart := false, narrowed := true }
def NetNilUptoSaid : Prop := netNilUptoRow.holds Try.pinned (OpenSpec.upto netNilSpec)

/-- 'courierlaw19.DedupReplays', WHERE WHAT IT READS IS OF BULK AT MOST 1048576: true; the input reads as it did. -/
def dedupReplaysUptoRow : OpenClaim := { program := "ytdconcindpfmcaa", sum := "f75c39feec4eee39c18d1c8883446f92d67728b4ca09fef604b46c1d1dcac7e1", func := "courier/courierlaw19.DedupReplays", spec := "dedupReplays", unfollowed := true, recurses := true, apart := false, narrowed := true }
def DedupReplaysUptoSaid : Prop := dedupReplaysUptoRow.holds Try.pinned (OpenSpec.upto dedupReplaysSpec)

/-- 'courierlaw19.DedupNil', WHERE WHAT IT READS IS OF BULK AT MOST 1048576: true; the input reads as it did. -/
def dedupNilUptoRow : OpenClaim := { program := "ytdconcindpfmcaa", sum := "f75c39feec4eee39c18d1c8883446f92d67728b4ca09fef604b46c1d1dcac7e1", func := "courier/courierlaw19.DedupNil", spec := "dedupNil", unfollowed := true, recurses := true, apart := false, narrowed := true }
def DedupNilUptoSaid : Prop := dedupNilUptoRow.holds Try.pinned (OpenSpec.upto dedupNilSpec)

end Rows
end Go.Proofs.Ytdconcindpfmcaa
