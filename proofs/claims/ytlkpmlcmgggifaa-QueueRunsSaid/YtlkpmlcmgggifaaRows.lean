/-
  No cell of these rows narrows 'for every input' (looked for: loops, veiled, ifaces, maps, wideKeys, modest, calm, conditions, laid).
  DERIVED. THE GIVEN ROWS OF THIS SEAT. 5 by the template 'for every input the law returns true; each argument reads behind the call as it read before'; 0 by the template 'total and deterministic' (their statements: YtlkpmlcmgggifaaTotals.lean).
  GIVEN WITH THE SEED: the statements are not yours to turn. If you find one false, say at which input.
  Laid BY PROGRAM, IN A SANDBOX (cutbox-rows.mjs): the forced cells as the released guide's own fill.sh prints them over the translation d6bd26e90dcb9c6f… (all of the seat's roots in one cut). By AI agents, Wed Nov 11 2026. No macro, syntax, notation, axiom, sorry.
-/
import Derived.Test.YtlkpmlcmgggifaaChecked
import GoSem.Claim
import GoSem.ClaimJoined
import GoSem.ClaimMapViews
import Derived.JoinedTies
import Derived.KernelRfl
namespace Go.Proofs.Ytlkpmlcmgggifaa
/- THE CELL 'sum', in the pinned program and in every row, IS THE sha256 OF THE DUMP (.gsa) THAT YtlkpmlcmgggifaaProg.lean LOADS. Nothing in Lean hashes anything: it is a label: what it is worth is what the hold of that sum in a sandbox is worth. -/
noncomputable def Try.pinned : Pinned := { name := "ytlkpmlcmgggifaa", sum := "d6bd26e90dcb9c6f75d720195e4beea05a178131213aa8e86cb4d81fa4f101c8", checked := Try.checked }
namespace Rows
def none {H : Type} : Left H := { results := [], args := [] }

/-- 'tiltyardlaw17.QueueOne': WHATEVER THE INPUT: true; the input reads as it did. -/
def queueOneSpec : ChangeSpec := { name := "queueOne", fn := fun _ => fun
  | [d] => { results := [.lit (.bool true)], args := [d] }
  | _ => none }
def queueOneRow : OpenClaim := { program := "ytlkpmlcmgggifaa", sum := "d6bd26e90dcb9c6f75d720195e4beea05a178131213aa8e86cb4d81fa4f101c8", func := "tiltyard/tiltyardlaw17.QueueOne", spec := "queueOne", inPlace := ["slices.overlaps[tiltyard/queue.Ticket]"], unfollowed := true, recurses := true, apart := false }
def QueueOneSaid : Prop := queueOneRow.holds Try.pinned (OpenSpec.ofChange queueOneSpec)

/-- ITS FALSE NEIGHBOUR: 'it returns false'. Refute it at one input. -/
def queueOneWrong : ChangeSpec := { name := "queueOne", fn := fun _ => fun
  | [d] => { results := [.lit (.bool false)], args := [d] }
  | _ => none }
def QueueOneWrongFalsely : Prop := queueOneRow.holds Try.pinned (OpenSpec.ofChange queueOneWrong)

/-- 'tiltyardlaw17.QueueRuns': WHATEVER THE INPUT: true; the input reads as it did. -/
def queueRunsSpec : ChangeSpec := { name := "queueRuns", fn := fun _ => fun
  | [d1, d2] => { results := [.lit (.bool true)], args := [d1, d2] }
  | _ => none }
def queueRunsRow : OpenClaim := { program := "ytlkpmlcmgggifaa", sum := "d6bd26e90dcb9c6f75d720195e4beea05a178131213aa8e86cb4d81fa4f101c8", func := "tiltyard/tiltyardlaw17.QueueRuns", spec := "queueRuns", inPlace := ["slices.overlaps[tiltyard/queue.Ticket]"], unfollowed := true, recurses := true, apart := false }
def QueueRunsSaid : Prop := queueRunsRow.holds Try.pinned (OpenSpec.ofChange queueRunsSpec)

/-- ITS FALSE NEIGHBOUR: 'it returns false'. Refute it at one input. -/
def queueRunsWrong : ChangeSpec := { name := "queueRuns", fn := fun _ => fun
  | [d1, d2] => { results := [.lit (.bool false)], args := [d1, d2] }
  | _ => none }
def QueueRunsWrongFalsely : Prop := queueRunsRow.holds Try.pinned (OpenSpec.ofChange queueRunsWrong)

/-- 'tiltyardlaw17.QueueAgain': WHATEVER THE INPUT: true; the input reads as it did. -/
def queueAgainSpec : ChangeSpec := { name := "queueAgain", fn := fun _ => fun
  | [d1, d2] => { results := [.lit (.bool true)], args := [d1, d2] }
  | _ => none }
def queueAgainRow : OpenClaim := { program := "ytlkpmlcmgggifaa", sum := "d6bd26e90dcb9c6f75d720195e4beea05a178131213aa8e86cb4d81fa4f101c8", func := "tiltyard/tiltyardlaw17.QueueAgain", spec := "queueAgain", inPlace := ["slices.overlaps[tiltyard/queue.Ticket]"], unfollowed := true, recurses := true, apart := false }
def QueueAgainSaid : Prop := queueAgainRow.holds Try.pinned (OpenSpec.ofChange queueAgainSpec)

/-- ITS FALSE NEIGHBOUR: 'it returns false'. Refute it at one input. -/
def queueAgainWrong : ChangeSpec := { name := "queueAgain", fn := fun _ => fun
  | [d1, d2] => { results := [.lit (.bool false)], args := [d1, d2] }
  | _ => none }
def QueueAgainWrongFalsely : Prop := queueAgainRow.holds Try.pinned (OpenSpec.ofChange queueAgainWrong)

/-- 'tiltyardlaw20.ReadyNo': WHATEVER THE INPUT: true; the input reads as it did. -/
def readyNoSpec : ChangeSpec := { name := "readyNo", fn := fun _ => fun
  | [d1, d2, d3] => { results := [.lit (.bool true)], args := [d1, d2, d3] }
  | _ => none }
def readyNoRow : OpenClaim := { program := "ytlkpmlcmgggifaa", sum := "d6bd26e90dcb9c6f75d720195e4beea05a178131213aa8e86cb4d81fa4f101c8", func := "tiltyard/tiltyardlaw20.ReadyNo", spec := "readyNo", inPlace := ["slices.overlaps[tiltyard/rack.row[tiltyard/ready.Check]]"], unfollowed := true, recurses := true, apart := false }
def ReadyNoSaid : Prop := readyNoRow.holds Try.pinned (OpenSpec.ofChange readyNoSpec)

/-- ITS FALSE NEIGHBOUR: 'it returns false'. Refute it at one input. -/
def readyNoWrong : ChangeSpec := { name := "readyNo", fn := fun _ => fun
  | [d1, d2, d3] => { results := [.lit (.bool false)], args := [d1, d2, d3] }
  | _ => none }
def ReadyNoWrongFalsely : Prop := readyNoRow.holds Try.pinned (OpenSpec.ofChange readyNoWrong)

/-- 'tiltyardlaw13.PartyTold': WHATEVER THE INPUT: true; the input reads as it did. -/
def partyToldSpec : ChangeSpec := { name := "partyTold", fn := fun _ => fun
  | [d1, d2] => { results := [.lit (.bool true)], args := [d1, d2] }
  | _ => none }
def partyToldRow : OpenClaim := { program := "ytlkpmlcmgggifaa", sum := "d6bd26e90dcb9c6f75d720195e4beea05a178131213aa8e86cb4d81fa4f101c8", func := "tiltyard/tiltyardlaw13.PartyTold", spec := "partyTold", inPlace := ["slices.overlaps[tiltyard/rack.row[tiltyard/party.Party]]"], unfollowed := true, recurses := true, apart := false }
def PartyToldSaid : Prop := partyToldRow.holds Try.pinned (OpenSpec.ofChange partyToldSpec)

/-- ITS FALSE NEIGHBOUR: 'it returns false'. Refute it at one input. -/
def partyToldWrong : ChangeSpec := { name := "partyTold", fn := fun _ => fun
  | [d1, d2] => { results := [.lit (.bool false)], args := [d1, d2] }
  | _ => none }
def PartyToldWrongFalsely : Prop := partyToldRow.holds Try.pinned (OpenSpec.ofChange partyToldWrong)

/- THE SECOND FORM. 'bulk': how many values and letters a reading holds, each counted each time it is reached (what is shared counts as often as it is met; a slice's spare places count too). A statement '..UptoSaid' is the law's where the arguments, and the package variables that the reading takes, are together of bulk at most 1048576: NARROWER than '..Said'. Prove '..Said' where nothing that the law and all that it calls make is longer than what came in: it says more and counts as full. Else prove '..UptoSaid'. A law counts once. -/
mutual
def uptoBulk {H : Type} : DataW H → Nat
  | .lit (.string bytes) => bytes.length + 1
  | .lit _ => 1
  | .nil => 1
  | .ptr d => uptoBulk d + 1
  | .slice elems spare => uptoBulkAll elems + uptoBulkAll spare + 1
  | .agg parts => uptoBulkAll parts + 1
  | .iface _ d => uptoBulk d + 1
  | .map entries => uptoBulkEntries entries + 1
  | .held _ => 1
def uptoBulkAll {H : Type} : List (DataW H) → Nat
  | [] => 0
  | d :: r => uptoBulk d + uptoBulkAll r
def uptoBulkEntries {H : Type} : List (Lit × DataW H) → Nat
  | [] => 0
  | x :: r => uptoBulkEntry x + uptoBulkEntries r
def uptoBulkEntry {H : Type} : Lit × DataW H → Nat
  | (.string bytes, d) => bytes.length + uptoBulk d + 1
  | (_, d) => uptoBulk d + 1
 end
def uptoSmall : (H : Type) → List (DataW H) → Bool := fun _ ds => decide (uptoBulkAll ds ≤ 1048576)
def OpenSpec.upto (s : _root_.Go.ChangeSpec) : _root_.Go.OpenSpec := { _root_.Go.OpenSpec.ofChange s with cond := some uptoSmall }

/-- 'tiltyardlaw17.QueueOne', WHERE WHAT IT READS IS OF BULK AT MOST 1048576: true; the input reads as it did. -/
def queueOneUptoRow : OpenClaim := { program := "ytlkpmlcmgggifaa", sum := "d6bd26e90dcb9c6f75d720195e4beea05a178131213aa8e86cb4d81fa4f101c8", func := "tiltyard/tiltyardlaw17.QueueOne", spec := "queueOne", inPlace := ["slices.overlaps[tiltyard/queue.Ticket]"], unfollowed := true, recurses := true, apart := false, narrowed := true }
def QueueOneUptoSaid : Prop := queueOneUptoRow.holds Try.pinned (OpenSpec.upto queueOneSpec)

/-- 'tiltyardlaw17.QueueRuns', WHERE WHAT IT READS IS OF BULK AT MOST 1048576: true; the input reads as it did. -/
def queueRunsUptoRow : OpenClaim := { program := "ytlkpmlcmgggifaa", sum := "d6bd26e90dcb9c6f75d720195e4beea05a178131213aa8e86cb4d81fa4f101c8", func := "tiltyard/tiltyardlaw17.QueueRuns", spec := "queueRuns", inPlace := ["slices.overlaps[tiltyard/queue.Ticket]"], unfollowed := true, recurses := true, apart := false, narrowed := true }
def QueueRunsUptoSaid : Prop := queueRunsUptoRow.holds Try.pinned (OpenSpec.upto queueRunsSpec)

/-- 'tiltyardlaw17.QueueAgain', WHERE WHAT IT READS IS OF BULK AT MOST 1048576: true; the input reads as it did. -/
def queueAgainUptoRow : OpenClaim := { program := "ytlkpmlcmgggifaa", sum := "d6bd26e90dcb9c6f75d720195e4beea05a178131213aa8e86cb4d81fa4f101c8", func := "tiltyard/tiltyardlaw17.QueueAgain", spec := "queueAgain", inPlace := ["slices.overlaps[tiltyard/queue.Ticket]"], unfollowed := true, recurses := true, apart := false, narrowed := true }
def QueueAgainUptoSaid : Prop := queueAgainUptoRow.holds Try.pinned (OpenSpec.upto queueAgainSpec)

/-- 'tiltyardlaw20.ReadyNo', WHERE WHAT IT READS IS OF BULK AT MOST 1048576: true; the input reads as it did. -/
def readyNoUptoRow : OpenClaim := { program := "ytlkpmlcmgggifaa", sum := "d6bd26e90dcb9c6f75d720195e4beea05a178131213aa8e86cb4d81fa4f101c8", func := "tiltyard/tiltyardlaw20.ReadyNo", spec := "readyNo", inPlace := ["slices.overlaps[tiltyard/rack.row[tiltyard/ready.Check]]"], unfollowed := true, recurses := true, apart := false, narrowed := true }
def ReadyNoUptoSaid : Prop := readyNoUptoRow.holds Try.pinned (OpenSpec.upto readyNoSpec)

/-- 'tiltyardlaw13.PartyTold', WHERE WHAT IT READS IS OF BULK AT MOST 1048576: true; the input reads as it did. -/
def partyToldUptoRow : OpenClaim := { program := "ytlkpmlcmgggifaa", sum := "d6bd26e90dcb9c6f75d720195e4beea05a178131213aa8e86cb4d81fa4f101c8", func := "tiltyard/tiltyardlaw13.PartyTold", spec := "partyTold", inPlace := ["slices.overlaps[tiltyard/rack.row[tiltyard/party.Party]]"], unfollowed := true, recurses := true, apart := false, narrowed := true }
def PartyToldUptoSaid : Prop := partyToldUptoRow.holds Try.pinned (OpenSpec.upto partyToldSpec)

end Rows
end Go.Proofs.Ytlkpmlcmgggifaa
