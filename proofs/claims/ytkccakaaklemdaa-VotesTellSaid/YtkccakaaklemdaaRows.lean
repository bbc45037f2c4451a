/-
  No cell of these rows narrows 'for every input' (looked for: loops, veiled, ifaces, maps, wideKeys, modest, calm, conditions, laid).
  DERIVED. THE GIVEN ROWS OF THIS SEAT. 8 by the template 'for every input the law returns true; each argument reads behind the call as it read before'; 0 by the template 'total and deterministic' (their statements: YtkccakaaklemdaaTotals.lean).
  GIVEN WITH THE SEED: the statements are not yours to turn. If you find one false, say at which input.
  Laid BY PROGRAM, IN A SANDBOX (cutbox-rows.mjs): the forced cells as the released guide's own fill.sh prints them over the translation 9c85b67161f2eaa1… (all of the seat's roots in one cut). By AI agents, Wed Nov 11 2026. No macro, syntax, notation, axiom, sorry.
-/
import Derived.Test.YtkccakaaklemdaaChecked
import GoSem.Claim
import GoSem.ClaimJoined
import GoSem.ClaimMapViews
import Derived.JoinedTies
import Derived.KernelRfl
namespace Go.Proofs.Ytkccakaaklemdaa
/- THE CELL 'sum', in the pinned program and in every row, IS THE sha256 OF THE DUMP (.gsa) THAT YtkccakaaklemdaaProg.lean LOADS. Nothing in Lean hashes anything: it is a label: what it is worth is what the hold of that sum in a sandbox is worth. -/
noncomputable def Try.pinned : Pinned := { name := "ytkccakaaklemdaa", sum := "9c85b67161f2eaa178fd3d5ea1d421254361a6ad206ff7512cb0ec35de281f75", checked := Try.checked }
namespace Rows
def none {H : Type} : Left H := { results := [], args := [] }

/-- 'marigoldlaw08.WeighSplits': WHATEVER THE INPUT: true; the input reads as it did. -/
def weighSplitsSpec : ChangeSpec := { name := "weighSplits", fn := fun _ => fun
  | [d1, d2, d3, d4, d5] => { results := [.lit (.bool true)], args := [d1, d2, d3, d4, d5] }
  | _ => none }
def weighSplitsRow : OpenClaim := { program := "ytkccakaaklemdaa", sum := "9c85b67161f2eaa178fd3d5ea1d421254361a6ad206ff7512cb0ec35de281f75", func := "marigold/marigoldlaw08.WeighSplits", spec := "weighSplits", unfollowed := true, recurses := true, plainKeys := false, apart := false }
def WeighSplitsSaid : Prop := weighSplitsRow.holds Try.pinned (OpenSpec.ofChange weighSplitsSpec)

/-- ITS FALSE NEIGHBOUR: 'it returns false'. Refute it at one input. -/
def weighSplitsWrong : ChangeSpec := { name := "weighSplits", fn := fun _ => fun
  | [d1, d2, d3, d4, d5] => { results := [.lit (.bool false)], args := [d1, d2, d3, d4, d5] }
  | _ => none }
def WeighSplitsWrongFalsely : Prop := weighSplitsRow.holds Try.pinned (OpenSpec.ofChange weighSplitsWrong)

/-- 'marigoldlaw07.VotesTell': WHATEVER THE INPUT: true; the input reads as it did. -/
def votesTellSpec : ChangeSpec := { name := "votesTell", fn := fun _ => fun
  | [d1, d2] => { results := [.lit (.bool true)], args := [d1, d2] }
  | _ => none }
def votesTellRow : OpenClaim := { program := "ytkccakaaklemdaa", sum := "9c85b67161f2eaa178fd3d5ea1d421254361a6ad206ff7512cb0ec35de281f75", func := "marigold/marigoldlaw07.VotesTell", spec := "votesTell", unfollowed := true, recurses := true, plainKeys := false, apart := false }
def VotesTellSaid : Prop := votesTellRow.holds Try.pinned (OpenSpec.ofChange votesTellSpec)

/-- ITS FALSE NEIGHBOUR: 'it returns false'. Refute it at one input. -/
def votesTellWrong : ChangeSpec := { name := "votesTell", fn := fun _ => fun
  | [d1, d2] => { results := [.lit (.bool false)], args := [d1, d2] }
  | _ => none }
def VotesTellWrongFalsely : Prop := votesTellRow.holds Try.pinned (OpenSpec.ofChange votesTellWrong)

/-- 'marigoldlaw07.VotesOrder': WHATEVER THE INPUT: true; the input reads as it did. -/
def votesOrderSpec : ChangeSpec := { name := "votesOrder", fn := fun _ => fun
  | [d1, d2, d3] => { results := [.lit (.bool true)], args := [d1, d2, d3] }
  | _ => none }
def votesOrderRow : OpenClaim := { program := "ytkccakaaklemdaa", sum := "9c85b67161f2eaa178fd3d5ea1d421254361a6ad206ff7512cb0ec35de281f75", func := "marigold/marigoldlaw07.VotesOrder", spec := "votesOrder", unfollowed := true, recurses := true, plainKeys := false, apart := false }
def VotesOrderSaid : Prop := votesOrderRow.holds Try.pinned (OpenSpec.ofChange votesOrderSpec)

/-- ITS FALSE NEIGHBOUR: 'it returns false'. Refute it at one input. -/
def votesOrderWrong : ChangeSpec := { name := "votesOrder", fn := fun _ => fun
  | [d1, d2, d3] => { results := [.lit (.bool false)], args := [d1, d2, d3] }
  | _ => none }
def VotesOrderWrongFalsely : Prop := votesOrderRow.holds Try.pinned (OpenSpec.ofChange votesOrderWrong)

/-- 'marigoldlaw07.VotesOne': WHATEVER THE INPUT: true; the input reads as it did. -/
def votesOneSpec : ChangeSpec := { name := "votesOne", fn := fun _ => fun
  | [d1, d2] => { results := [.lit (.bool true)], args := [d1, d2] }
  | _ => none }
def votesOneRow : OpenClaim := { program := "ytkccakaaklemdaa", sum := "9c85b67161f2eaa178fd3d5ea1d421254361a6ad206ff7512cb0ec35de281f75", func := "marigold/marigoldlaw07.VotesOne", spec := "votesOne", unfollowed := true, recurses := true, plainKeys := false, apart := false }
def VotesOneSaid : Prop := votesOneRow.holds Try.pinned (OpenSpec.ofChange votesOneSpec)

/-- ITS FALSE NEIGHBOUR: 'it returns false'. Refute it at one input. -/
def votesOneWrong : ChangeSpec := { name := "votesOne", fn := fun _ => fun
  | [d1, d2] => { results := [.lit (.bool false)], args := [d1, d2] }
  | _ => none }
def VotesOneWrongFalsely : Prop := votesOneRow.holds Try.pinned (OpenSpec.ofChange votesOneWrong)

/-- 'marigoldlaw07.VotesMore': WHATEVER THE INPUT: true; the input reads as it did. -/
def votesMoreSpec : ChangeSpec := { name := "votesMore", fn := fun _ => fun
  | [d1, d2, d3] => { results := [.lit (.bool true)], args := [d1, d2, d3] }
  | _ => none }
def votesMoreRow : OpenClaim := { program := "ytkccakaaklemdaa", sum := "9c85b67161f2eaa178fd3d5ea1d421254361a6ad206ff7512cb0ec35de281f75", func := "marigold/marigoldlaw07.VotesMore", spec := "votesMore", unfollowed := true, recurses := true, plainKeys := false, apart := false }
def VotesMoreSaid : Prop := votesMoreRow.holds Try.pinned (OpenSpec.ofChange votesMoreSpec)

/-- ITS FALSE NEIGHBOUR: 'it returns false'. Refute it at one input. -/
def votesMoreWrong : ChangeSpec := { name := "votesMore", fn := fun _ => fun
  | [d1, d2, d3] => { results := [.lit (.bool false)], args := [d1, d2, d3] }
  | _ => none }
def VotesMoreWrongFalsely : Prop := votesMoreRow.holds Try.pinned (OpenSpec.ofChange votesMoreWrong)

/-- 'marigoldlaw07.VotesSlots': WHATEVER THE INPUT: true; the input reads as it did. -/
def votesSlotsSpec : ChangeSpec := { name := "votesSlots", fn := fun _ => fun
  | [d1, d2] => { results := [.lit (.bool true)], args := [d1, d2] }
  | _ => none }
def votesSlotsRow : OpenClaim := { program := "ytkccakaaklemdaa", sum := "9c85b67161f2eaa178fd3d5ea1d421254361a6ad206ff7512cb0ec35de281f75", func := "marigold/marigoldlaw07.VotesSlots", spec := "votesSlots", unfollowed := true, recurses := true, plainKeys := false, apart := false }
def VotesSlotsSaid : Prop := votesSlotsRow.holds Try.pinned (OpenSpec.ofChange votesSlotsSpec)

/-- ITS FALSE NEIGHBOUR: 'it returns false'. Refute it at one input. -/
def votesSlotsWrong : ChangeSpec := { name := "votesSlots", fn := fun _ => fun
  | [d1, d2] => { results := [.lit (.bool false)], args := [d1, d2] }
  | _ => none }
def VotesSlotsWrongFalsely : Prop := votesSlotsRow.holds Try.pinned (OpenSpec.ofChange votesSlotsWrong)

/-- 'marigoldlaw07.VotesEach': WHATEVER THE INPUT: true; the input reads as it did. -/
def votesEachSpec : ChangeSpec := { name := "votesEach", fn := fun _ => fun
  | [d1, d2] => { results := [.lit (.bool true)], args := [d1, d2] }
  | _ => none }
def votesEachRow : OpenClaim := { program := "ytkccakaaklemdaa", sum := "9c85b67161f2eaa178fd3d5ea1d421254361a6ad206ff7512cb0ec35de281f75", func := "marigold/marigoldlaw07.VotesEach", spec := "votesEach", unfollowed := true, recurses := true, plainKeys := false, apart := false }
def VotesEachSaid : Prop := votesEachRow.holds Try.pinned (OpenSpec.ofChange votesEachSpec)

/-- ITS FALSE NEIGHBOUR: 'it returns false'. Refute it at one input. -/
def votesEachWrong : ChangeSpec := { name := "votesEach", fn := fun _ => fun
  | [d1, d2] => { results := [.lit (.bool false)], args := [d1, d2] }
  | _ => none }
def VotesEachWrongFalsely : Prop := votesEachRow.holds Try.pinned (OpenSpec.ofChange votesEachWrong)

/-- 'marigoldlaw07.VotesLater': WHATEVER THE INPUT: true; the input reads as it did. -/
def votesLaterSpec : ChangeSpec := { name := "votesLater", fn := fun _ => fun
  | [d1, d2, d3] => { results := [.lit (.bool true)], args := [d1, d2, d3] }
  | _ => none }
def votesLaterRow : OpenClaim := { program := "ytkccakaaklemdaa", sum := "9c85b67161f2eaa178fd3d5ea1d421254361a6ad206ff7512cb0ec35de281f75", func := "marigold/marigoldlaw07.VotesLater", spec := "votesLater", unfollowed := true, recurses := true, plainKeys := false, apart := false }
def VotesLaterSaid : Prop := votesLaterRow.holds Try.pinned (OpenSpec.ofChange votesLaterSpec)

/-- ITS FALSE NEIGHBOUR: 'it returns false'. Refute it at one input. -/
def votesLaterWrong : ChangeSpec := { name := "votesLater", fn := fun _ => fun
  | [d1, d2, d3] => { results := [.lit (.bool false)], args := [d1, d2, d3] }
  | _ => none }
def VotesLaterWrongFalsely : Prop := votesLaterRow.holds Try.pinned (OpenSpec.ofChange votesLaterWrong)

/- THE SECOND FORM. 'bulk': how many values and letters a reading holds, each counted each time it is reached (what is shared counts as often as it is met; a slice's spare places count too). A statement '..UptoSaid' is the law's where the arguments, and the package variables that the reading takes, are together of bulk at most 1048576: NARROWER than '..Said'. Prove '..Said' where nothing that the law and all that it calls make is longer than what came in: it says more and counts as full. Else prove '..UptoSaid'. A law counts once. -/
mutual
def uptoBulk {H : Type} : DataW H → Nat
  | .lit (.string bytes) => bytes.length + 1
  | .lit _ => 1
  | .nil => 1
  | .ptr d => uptoBulk d + 1
  | .slice elems spare => uptoBulkAll elems + uptoBulkAll spare + 1
  | .agg parts => uptoBulkAll parts + 1
  | .iface _ d => uptoBulk d + 1
  | .map entries => uptoBulkEntries entries + 1
  | .held _ => 1
def uptoBulkAll {H : Type} : List (DataW H) → Nat
  | [] => 0
  | d :: r => uptoBulk d + uptoBulkAll r
def uptoBulkEntries {H : Type} : List (Lit × DataW H) → Nat
  | [] => 0
  | x :: r => uptoBulkEntry x + uptoBulkEntries r
def uptoBulkEntry {H : Type} : Lit × DataW H → Nat
  | (.string bytes, d) => bytes.length + uptoBulk d + 1
  | (_, d) => uptoBulk d + 1
 end
def uptoSmall : (H : Type) → List (DataW H) → Bool := fun _ ds => decide (uptoBulkAll ds ≤ 1048576)
def OpenSpec.upto (s : _root_.Go.ChangeSpec) : _root_.Go.OpenSpec := { _root_.Go.OpenSpec.ofChange s with cond := some uptoSmall }

/-- 'marigoldlaw08.WeighSplits', WHERE WHAT IT READS IS OF BULK AT MOST 1048576: true; the input reads as it did. -/
def weighSplitsUptoRow : OpenClaim := { program := "ytkccakaaklemdaa", sum := "9c85b67161f2eaa178fd3d5ea1d421254361a6ad206ff7512cb0ec35de281f75", func := "marigold/marigoldlaw08.WeighSplits", spec := "weighSplits", unfollowed := true, recurses := true, plainKeys := false, apart := false, narrowed := true }
def WeighSplitsUptoSaid : Prop := weighSplitsUptoRow.holds Try.pinned (OpenSpec.upto weighSplitsSpec)

/-- 'marigoldlaw07.VotesTell', WHERE WHAT IT READS IS OF BULK AT MOST 1048576: true; the input reads as it did. -/
def votesTellUptoRow : OpenClaim := { program := "ytkccakaaklemdaa", sum := "9c85b67161f2eaa178fd3d5ea1d421254361a6ad206ff7512cb0ec35de281f75", func := "marigold/marigoldlaw07.VotesTell", spec := "votesTell", unfollowed := true, recurses := true, plainKeys := false, apart := false, narrowed := true }
def VotesTellUptoSaid : Prop := votesTellUptoRow.holds Try.pinned (OpenSpec.upto votesTellSpec)

/-- 'marigoldlaw07.VotesOrder', WHERE WHAT IT READS IS OF BULK AT MOST 1048576: true; the input reads as it did. -/
def votesOrderUptoRow : OpenClaim := { program := "ytkccakaaklemdaa", sum := "9c85b67161f2eaa178fd3d5ea1d421254361a6ad206ff7512cb0ec35de281f75", func := "marigold/marigoldlaw07.VotesOrder", spec := "votesOrder", unfollowed := true, recurses := true, plainKeys := false, apart := false, narrowed := true }
def VotesOrderUptoSaid : Prop := votesOrderUptoRow.holds Try.pinned (OpenSpec.upto votesOrderSpec)

/-- 'marigoldlaw07.VotesOne', WHERE WHAT IT READS IS OF BULK AT MOST 1048576: true; the input reads as it did. -/
def votesOneUptoRow : OpenClaim := { program := "ytkccakaaklemdaa", sum := "9c85b67161f2eaa178fd3d5ea1d421254361a6ad206ff7512cb0ec35de281f75", func := "marigold/marigoldlaw07.VotesOne", spec := "votesOne", unfollowed := true, recurses := true, plainKeys := false, apart := false, narrowed := true }
def VotesOneUptoSaid : Prop := votesOneUptoRow.holds Try.pinned (OpenSpec.upto votesOneSpec)

/-- 'marigoldlaw07.VotesMore', WHERE WHAT IT READS IS OF BULK AT MOST 1048576: true; the input reads as it did. -/
def votesMoreUptoRow : OpenClaim := { program := "ytkccakaaklemdaa", sum := "9c85b67161f2eaa178fd3d5ea1d421254361a6ad206ff7512cb0ec35de281f75", func := "marigold/marigoldlaw07.VotesMore", spec := "votesMore", unfollowed := true, recurses := true, plainKeys := false, apart := false, narrowed := true }
def VotesMoreUptoSaid : Prop := votesMoreUptoRow.holds Try.pinned (OpenSpec.upto votesMoreSpec)

/-- 'marigoldlaw07.VotesSlots', WHERE WHAT IT READS IS OF BULK AT MOST 1048576: true; the input reads as it did. -/
def votesSlotsUptoRow : OpenClaim := { program := "ytkccakaaklemdaa", sum := "9c85b67161f2eaa178fd3d5ea1d421254361a6ad206ff7512cb0ec35de281f75", func := "marigold/marigoldlaw07.VotesSlots", spec := "votesSlots", unfollowed := true, recurses := true, plainKeys := false, apart := false, narrowed := true }
def VotesSlotsUptoSaid : Prop := votesSlotsUptoRow.holds Try.pinned (OpenSpec.upto votesSlotsSpec)

/-- 'marigoldlaw07.VotesEach', WHERE WHAT IT READS IS OF BULK AT MOST 1048576: true; the input reads as it did. -/
def votesEachUptoRow : OpenClaim := { program := "ytkccakaaklemdaa", sum := "9c85b67161f2eaa178fd3d5ea1d421254361a6ad206ff7512cb0ec35de281f75", func := "marigold/marigoldlaw07.VotesEach", spec := "votesEach", unfollowed := true, recurses := true, plainKeys := false, apart := false, narrowed := true }
def VotesEachUptoSaid : Prop := votesEachUptoRow.holds Try.pinned (OpenSpec.upto votesEachSpec)

/-- 'marigoldlaw07.VotesLater', WHERE WHAT IT READS IS OF BULK AT MOST 1048576: true; the input reads as it did. -/
def votesLaterUptoRow : OpenClaim := { program := "ytkccakaaklemdaa", sum := "9c85b67161f2eaa178fd3d5ea1d421254361a6ad206ff7512cb0ec35de281f75", func := "marigold/marigoldlaw07.VotesLater", spec := "votesLater", unfollowed := true, recurses := true, plainKeys := false, apart := false, narrowed := true }
def VotesLaterUptoSaid : Prop := votesLaterUptoRow.holds Try.pinned (OpenSpec.upto votesLaterSpec)

end Rows
end Go.Proofs.Ytkccakaaklemdaa
