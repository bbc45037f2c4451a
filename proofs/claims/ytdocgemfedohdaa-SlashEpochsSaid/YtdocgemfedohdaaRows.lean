/-
  No cell of these rows narrows 'for every input' (looked for: loops, veiled, ifaces, maps, wideKeys, modest, calm, conditions, laid).
  DERIVED. THE GIVEN ROWS OF THIS SEAT. 8 by the template 'for every input the law returns true; each argument reads behind the call as it read before'; 0 by the template 'total and deterministic' (their statements: YtdocgemfedohdaaTotals.lean).
  GIVEN WITH THE SEED: the statements are not yours to turn. If you find one false, say at which input.
  Laid BY PROGRAM, IN A SANDBOX (cutbox-rows.mjs): the forced cells as the released guide's own fill.sh prints them over the translation a690bdd3ca21d081… (all of the seat's roots in one cut). By AI agents, Wed Nov 11 2026. No macro, syntax, notation, axiom, sorry.
-/
import Derived.Test.YtdocgemfedohdaaChecked
import GoSem.Claim
import GoSem.ClaimJoined
import GoSem.ClaimMapViews
import Derived.JoinedTies
import Derived.KernelRfl
namespace Go.Proofs.Ytdocgemfedohdaa
/- THE CELL 'sum', in the pinned program and in every row, IS THE sha256 OF THE DUMP (.gsa) THAT YtdocgemfedohdaaProg.lean LOADS. Nothing in Lean hashes anything: it is a label: what it is worth is what the hold of that sum in a sandbox is worth. -/
noncomputable def Try.pinned : Pinned := { name := "ytdocgemfedohdaa", sum := "a690bdd3ca21d081539f2f20d749f22dca3d869cac7c7dee5d65ee9a6c818fad", checked := Try.checked }
namespace Rows
def none {H : Type} : Left H := { results := [], args := [] }

/-- 'marigoldlaw11.FfgTells': WHATEVER THE INPUT: true; the input reads as it did. -/
def ffgTellsSpec : ChangeSpec := { name := "ffgTells", fn := fun _ => fun
  | [d1, d2, d3, d4] => { results := [.lit (.bool true)], args := [d1, d2, d3, d4] }
  | _ => none }
def ffgTellsRow : OpenClaim := { program := "ytdocgemfedohdaa", sum := "a690bdd3ca21d081539f2f20d749f22dca3d869cac7c7dee5d65ee9a6c818fad", func := "marigold/marigoldlaw11.FfgTells", spec := "ffgTells", unfollowed := true, recurses := true, plainKeys := false, apart := false }
def FfgTellsSaid : Prop := ffgTellsRow.holds Try.pinned (OpenSpec.ofChange ffgTellsSpec)

/-- ITS FALSE NEIGHBOUR: 'it returns false'. Refute it at one input. -/
def ffgTellsWrong : ChangeSpec := { name := "ffgTells", fn := fun _ => fun
  | [d1, d2, d3, d4] => { results := [.lit (.bool false)], args := [d1, d2, d3, d4] }
  | _ => none }
def FfgTellsWrongFalsely : Prop := ffgTellsRow.holds Try.pinned (OpenSpec.ofChange ffgTellsWrong)

/-- 'marigoldlaw11.FfgMore': WHATEVER THE INPUT: true; the input reads as it did. -/
def ffgMoreSpec : ChangeSpec := { name := "ffgMore", fn := fun _ => fun
  | [d1, d2, d3, d4] => { results := [.lit (.bool true)], args := [d1, d2, d3, d4] }
  | _ => none }
def ffgMoreRow : OpenClaim := { program := "ytdocgemfedohdaa", sum := "a690bdd3ca21d081539f2f20d749f22dca3d869cac7c7dee5d65ee9a6c818fad", func := "marigold/marigoldlaw11.FfgMore", spec := "ffgMore", unfollowed := true, recurses := true, plainKeys := false, apart := false }
def FfgMoreSaid : Prop := ffgMoreRow.holds Try.pinned (OpenSpec.ofChange ffgMoreSpec)

/-- ITS FALSE NEIGHBOUR: 'it returns false'. Refute it at one input. -/
def ffgMoreWrong : ChangeSpec := { name := "ffgMore", fn := fun _ => fun
  | [d1, d2, d3, d4] => { results := [.lit (.bool false)], args := [d1, d2, d3, d4] }
  | _ => none }
def FfgMoreWrongFalsely : Prop := ffgMoreRow.holds Try.pinned (OpenSpec.ofChange ffgMoreWrong)

/-- 'marigoldlaw11.FfgGrounds': WHATEVER THE INPUT: true; the input reads as it did. -/
def ffgGroundsSpec : ChangeSpec := { name := "ffgGrounds", fn := fun _ => fun
  | [d1, d2, d3] => { results := [.lit (.bool true)], args := [d1, d2, d3] }
  | _ => none }
def ffgGroundsRow : OpenClaim := { program := "ytdocgemfedohdaa", sum := "a690bdd3ca21d081539f2f20d749f22dca3d869cac7c7dee5d65ee9a6c818fad", func := "marigold/marigoldlaw11.FfgGrounds", spec := "ffgGrounds", unfollowed := true, recurses := true, plainKeys := false, apart := false }
def FfgGroundsSaid : Prop := ffgGroundsRow.holds Try.pinned (OpenSpec.ofChange ffgGroundsSpec)

/-- ITS FALSE NEIGHBOUR: 'it returns false'. Refute it at one input. -/
def ffgGroundsWrong : ChangeSpec := { name := "ffgGrounds", fn := fun _ => fun
  | [d1, d2, d3] => { results := [.lit (.bool false)], args := [d1, d2, d3] }
  | _ => none }
def FfgGroundsWrongFalsely : Prop := ffgGroundsRow.holds Try.pinned (OpenSpec.ofChange ffgGroundsWrong)

/-- 'marigoldlaw11.FfgOrder': WHATEVER THE INPUT: true; the input reads as it did. -/
def ffgOrderSpec : ChangeSpec := { name := "ffgOrder", fn := fun _ => fun
  | [d1, d2, d3, d4] => { results := [.lit (.bool true)], args := [d1, d2, d3, d4] }
  | _ => none }
def ffgOrderRow : OpenClaim := { program := "ytdocgemfedohdaa", sum := "a690bdd3ca21d081539f2f20d749f22dca3d869cac7c7dee5d65ee9a6c818fad", func := "marigold/marigoldlaw11.FfgOrder", spec := "ffgOrder", unfollowed := true, recurses := true, plainKeys := false, apart := false }
def FfgOrderSaid : Prop := ffgOrderRow.holds Try.pinned (OpenSpec.ofChange ffgOrderSpec)

/-- ITS FALSE NEIGHBOUR: 'it returns false'. Refute it at one input. -/
def ffgOrderWrong : ChangeSpec := { name := "ffgOrder", fn := fun _ => fun
  | [d1, d2, d3, d4] => { results := [.lit (.bool false)], args := [d1, d2, d3, d4] }
  | _ => none }
def FfgOrderWrongFalsely : Prop := ffgOrderRow.holds Try.pinned (OpenSpec.ofChange ffgOrderWrong)

/-- 'marigoldlaw11.FfgWeak': WHATEVER THE INPUT: true; the input reads as it did. -/
def ffgWeakSpec : ChangeSpec := { name := "ffgWeak", fn := fun _ => fun
  | [d1, d2, d3] => { results := [.lit (.bool true)], args := [d1, d2, d3] }
  | _ => none }
def ffgWeakRow : OpenClaim := { program := "ytdocgemfedohdaa", sum := "a690bdd3ca21d081539f2f20d749f22dca3d869cac7c7dee5d65ee9a6c818fad", func := "marigold/marigoldlaw11.FfgWeak", spec := "ffgWeak", unfollowed := true, recurses := true, plainKeys := false, apart := false }
def FfgWeakSaid : Prop := ffgWeakRow.holds Try.pinned (OpenSpec.ofChange ffgWeakSpec)

/-- ITS FALSE NEIGHBOUR: 'it returns false'. Refute it at one input. -/
def ffgWeakWrong : ChangeSpec := { name := "ffgWeak", fn := fun _ => fun
  | [d1, d2, d3] => { results := [.lit (.bool false)], args := [d1, d2, d3] }
  | _ => none }
def FfgWeakWrongFalsely : Prop := ffgWeakRow.holds Try.pinned (OpenSpec.ofChange ffgWeakWrong)

/-- 'marigoldlaw11.FfgEpochs': WHATEVER THE INPUT: true; the input reads as it did. -/
def ffgEpochsSpec : ChangeSpec := { name := "ffgEpochs", fn := fun _ => fun
  | [d1, d2, d3, d4] => { results := [.lit (.bool true)], args := [d1, d2, d3, d4] }
  | _ => none }
def ffgEpochsRow : OpenClaim := { program := "ytdocgemfedohdaa", sum := "a690bdd3ca21d081539f2f20d749f22dca3d869cac7c7dee5d65ee9a6c818fad", func := "marigold/marigoldlaw11.FfgEpochs", spec := "ffgEpochs", unfollowed := true, recurses := true, plainKeys := false, apart := false }
def FfgEpochsSaid : Prop := ffgEpochsRow.holds Try.pinned (OpenSpec.ofChange ffgEpochsSpec)

/-- ITS FALSE NEIGHBOUR: 'it returns false'. Refute it at one input. -/
def ffgEpochsWrong : ChangeSpec := { name := "ffgEpochs", fn := fun _ => fun
  | [d1, d2, d3, d4] => { results := [.lit (.bool false)], args := [d1, d2, d3, d4] }
  | _ => none }
def FfgEpochsWrongFalsely : Prop := ffgEpochsRow.holds Try.pinned (OpenSpec.ofChange ffgEpochsWrong)

/-- 'marigoldlaw12.SlashEpochs': WHATEVER THE INPUT: true; the input reads as it did. -/
def slashEpochsSpec : ChangeSpec := { name := "slashEpochs", fn := fun _ => fun
  | [d1, d2, d3] => { results := [.lit (.bool true)], args := [d1, d2, d3] }
  | _ => none }
def slashEpochsRow : OpenClaim := { program := "ytdocgemfedohdaa", sum := "a690bdd3ca21d081539f2f20d749f22dca3d869cac7c7dee5d65ee9a6c818fad", func := "marigold/marigoldlaw12.SlashEpochs", spec := "slashEpochs", unfollowed := true, recurses := true, plainKeys := false, apart := false }
def SlashEpochsSaid : Prop := slashEpochsRow.holds Try.pinned (OpenSpec.ofChange slashEpochsSpec)

/-- ITS FALSE NEIGHBOUR: 'it returns false'. Refute it at one input. -/
def slashEpochsWrong : ChangeSpec := { name := "slashEpochs", fn := fun _ => fun
  | [d1, d2, d3] => { results := [.lit (.bool false)], args := [d1, d2, d3] }
  | _ => none }
def SlashEpochsWrongFalsely : Prop := slashEpochsRow.holds Try.pinned (OpenSpec.ofChange slashEpochsWrong)

/-- 'marigoldlaw12.SlashThird': WHATEVER THE INPUT: true; the input reads as it did. -/
def slashThirdSpec : ChangeSpec := { name := "slashThird", fn := fun _ => fun
  | [d1, d2, d3] => { results := [.lit (.bool true)], args := [d1, d2, d3] }
  | _ => none }
def slashThirdRow : OpenClaim := { program := "ytdocgemfedohdaa", sum := "a690bdd3ca21d081539f2f20d749f22dca3d869cac7c7dee5d65ee9a6c818fad", func := "marigold/marigoldlaw12.SlashThird", spec := "slashThird", unfollowed := true, recurses := true, plainKeys := false, apart := false }
def SlashThirdSaid : Prop := slashThirdRow.holds Try.pinned (OpenSpec.ofChange slashThirdSpec)

/-- ITS FALSE NEIGHBOUR: 'it returns false'. Refute it at one input. -/
def slashThirdWrong : ChangeSpec := { name := "slashThird", fn := fun _ => fun
  | [d1, d2, d3] => { results := [.lit (.bool false)], args := [d1, d2, d3] }
  | _ => none }
def SlashThirdWrongFalsely : Prop := slashThirdRow.holds Try.pinned (OpenSpec.ofChange slashThirdWrong)

/- THE SECOND FORM. 'bulk': how many values and letters a reading holds, each counted each time it is reached (what is shared counts as often as it is met; a slice's spare places count too). A statement '..UptoSaid' is the law's where the arguments, and the package variables that the reading takes, are together of bulk at most 1048576: NARROWER than '..Said'. Prove '..Said' where nothing that the law and all that it calls make is longer than what came in: it says more and counts as full. Else prove '..UptoSaid'. A law counts once. -/
mutual
def uptoBulk {H : Type} : DataW H → Nat
  | .lit (.string bytes) => bytes.length + 1
  | .lit _ => 1
  | .nil => 1
  | .ptr d => uptoBulk d + 1
  | .slice elems spare => uptoBulkAll elems + uptoBulkAll spare + 1
  | .agg parts => uptoBulkAll parts + 1
  | .iface _ d => uptoBulk d + 1
  | .map entries => uptoBulkEntries entries + 1
  | .held _ => 1
def uptoBulkAll {H : Type} : List (DataW H) → Nat
  | [] => 0
  | d :: r => uptoBulk d + uptoBulkAll r
def uptoBulkEntries {H : Type} : List (Lit × DataW H) → Nat
  | [] => 0
  | x :: r => uptoBulkEntry x + uptoBulkEntries r
def uptoBulkEntry {H : Type} : Lit × DataW H → Nat
  | (.string bytes, d) => bytes.length + uptoBulk d + 1
  | (_, d) => uptoBulk d + 1
 end
def uptoSmall : (H : Type) → List (DataW H) → Bool := fun _ ds => decide (uptoBulkAll ds ≤ 1048576)
def OpenSpec.upto (s : _root_.Go.ChangeSpec) : _root_.Go.OpenSpec := { _root_.Go.OpenSpec.ofChange s with cond := some uptoSmall }

/-- 'marigoldlaw11.FfgTells', WHERE WHAT IT READS IS OF BULK AT MOST 1048576: true; the input reads as it did. -/
def ffgTellsUptoRow : OpenClaim := { program := "ytdocgemfedohdaa", sum := "a690bdd3ca21d081539f2f20d749f22dca3d869cac7c7dee5d65ee9a6c818fad", func := "marigold/marigoldlaw11.FfgTells", spec := "ffgTells", unfollowed := true, recurses := true, plainKeys := false, apart := false, narrowed := true }
def FfgTellsUptoSaid : Prop := ffgTellsUptoRow.holds Try.pinned (OpenSpec.upto ffgTellsSpec)

/-- 'marigoldlaw11.FfgMore', WHERE WHAT IT READS IS OF BULK AT MOST 1048576: true; the input reads as it did. -/
def ffgMoreUptoRow : OpenClaim := { program := "ytdocgemfedohdaa", sum := "a690bdd3ca21d081539f2f20d749f22dca3d869cac7c7dee5d65ee9a6c818fad", func := "marigold/marigoldlaw11.FfgMore", spec := "ffgMore", unfollowed := true, recurses := true, plainKeys := false, apart := false, narrowed := true }
def FfgMoreUptoSaid : Prop := ffgMoreUptoRow.holds Try.pinned (OpenSpec.upto ffgMoreSpec)

/-- 'marigoldlaw11.FfgGrounds', WHERE WHAT IT READS IS OF BULK AT MOST 1048576: true; the input reads as it did. -/
def ffgGroundsUptoRow : OpenClaim := { program := "ytdocgemfedohdaa", sum := "a690bdd3ca21d081539f2f20d749f22dca3d869cac7c7dee5d65ee9a6c818fad", func := "marigold/marigoldlaw11.FfgGrounds", spec := "ffgGrounds", unfollowed := true, recurses := true, plainKeys := false, apart := false, narrowed := true }
def FfgGroundsUptoSaid : Prop := ffgGroundsUptoRow.holds Try.pinned (OpenSpec.upto ffgGroundsSpec)

/-- 'marigoldlaw11.FfgOrder', WHERE WHAT IT READS IS OF BULK AT MOST 1048576: true; the input reads as it did. -/
def ffgOrderUptoRow : OpenClaim := { program := "ytdocgemfedohdaa", sum := "a690bdd3ca21d081539f2f20d749f22dca3d869cac7c7dee5d65ee9a6c818fad", func := "marigold/marigoldlaw11.FfgOrder", spec := "ffgOrder", unfollowed := true, recurses := true, plainKeys := false, apart := false, narrowed := true }
def FfgOrderUptoSaid : Prop := ffgOrderUptoRow.holds Try.pinned (OpenSpec.upto ffgOrderSpec)

/-- 'marigoldlaw11.FfgWeak', WHERE WHAT IT READS IS OF BULK AT MOST 1048576: true; the input reads as it did. -/
def ffgWeakUptoRow : OpenClaim := { program := "ytdocgemfedohdaa", sum := "a690bdd3ca21d081539f2f20d749f22dca3d869cac7c7dee5d65ee9a6c818fad", func := "marigold/marigoldlaw11.FfgWeak", spec := "ffgWeak", unfollowed := true, recurses := true, plainKeys := false, apart := false, narrowed := true }
def FfgWeakUptoSaid : Prop := ffgWeakUptoRow.holds Try.pinned (OpenSpec.upto ffgWeakSpec)

/-- 'marigoldlaw11.FfgEpochs', WHERE WHAT IT READS IS OF BULK AT MOST 1048576: true; the input reads as it did. -/
def ffgEpochsUptoRow : OpenClaim := { program := "ytdocgemfedohdaa", sum := "a690bdd3ca21d081539f2f20d749f22dca3d869cac7c7dee5d65ee9a6c818fad", func := "marigold/marigoldlaw11.FfgEpochs", spec := "ffgEpochs", unfollowed := true, recurses := true, plainKeys := false, apart := false, narrowed := true }
def FfgEpochsUptoSaid : Prop := ffgEpochsUptoRow.holds Try.pinned (OpenSpec.upto ffgEpochsSpec)

/-- 'marigoldlaw12.SlashEpochs', WHERE WHAT IT READS IS OF BULK AT MOST 1048576: true; the input reads as it did. -/
def slashEpochsUptoRow : OpenClaim := { program := "ytdocgemfedohdaa", sum := "a690bdd3ca21d081539f2f20d749f22dca3d869cac7c7dee5d65ee9a6c818fad", func := "marigold/marigoldlaw12.SlashEpochs", spec := "slashEpochs", unfollowed := true, recurses := true, plainKeys := false, apart := false, narrowed := true }
def SlashEpochsUptoSaid : Prop := slashEpochsUptoRow.holds Try.pinned (OpenSpec.upto slashEpochsSpec)

/-- 'marigoldlaw12.SlashThird', WHERE WHAT IT READS IS OF BULK AT MOST 1048576: true; the input reads as it did. -/
def slashThirdUptoRow : OpenClaim := { program := "ytdocgemfedohdaa", sum := "a690bdd3ca21d081539f2f20d749f22dca3d869cac7c7dee5d65ee9a6c818fad", func := "marigold/marigoldlaw12.SlashThird", spec := "slashThird", unfollowed := true, recurses := true, plainKeys := false, apart := false, narrowed := true }
def SlashThirdUptoSaid : Prop := slashThirdUptoRow.holds Try.pinned (OpenSpec.upto slashThirdSpec)

end Rows
end Go.Proofs.Ytdocgemfedohdaa
