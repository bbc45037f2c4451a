/- The walks of the packages mix and marigoldref02: what each function computes. -/
import Derived.Test.YtigdbcfpamnkcaaProg
import Derived.WalkKit
import Derived.WalkSpells
import Derived.WalkLawsBesides
import Derived.Deep.QuietTactic
import Derived.BigQuiet
import Derived.Test.YtigdbcfpamnkcaaBase
import Derived.Deep.RegionHeld3
import Derived.StillTailTactics
namespace Go.Proofs.Ytigdbcfpamnkcaa
open Go.RowKit
def mixWord (a : Int) : Int :=
  let x := IntKind.u64.wrap (bits BinOp.xor IntKind.u64 a (a / 1073741824) * 13787848793156543929)
  let y := IntKind.u64.wrap (bits BinOp.xor IntKind.u64 x (x / 134217728) * 10723151780598845931)
  bits BinOp.xor IntKind.u64 y (y / 2147483648)
def mixStep (h x : Int) : Int := mixWord (IntKind.u64.wrap (bits BinOp.xor IntKind.u64 h x + 11400714819323198485))
/-- What the words come to: one pair. -/
def mixFold : ID → List Int → ID
  | p, [] => p
  | p, x :: l => mixFold ⟨mixStep p.1 x, mixStep p.2 (bits BinOp.xor IntKind.u64 IntKind.u64.max x)⟩ l
theorem mixFold_snoc (p : ID) (l : List Int) (x : Int) : mixFold p (l ++ [x]) = ⟨mixStep (mixFold p l).1 x, mixStep (mixFold p l).2 (bits BinOp.xor IntKind.u64 IntKind.u64.max x)⟩ := by
  induction l generalizing p with
  | nil => rfl
  | cons y l ih => exact ih _
def mixOf (l : List Int) : ID := mixFold ⟨1, 2⟩ (l ++ [(l.length : Int)])
end Go.Proofs.Ytigdbcfpamnkcaa
