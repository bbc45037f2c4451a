/- The walks of marigoldref08's OnIn, On, All. -/
import Derived.Test.YtkccakaaklemdaaWeigh2
namespace Go.Proofs.Ytkccakaaklemdaa
open Go.RowKit
theorem wsumTo_false (W : List Int) (k : Nat) : wsumTo W (fun _ => false) k = 0 := by
  induction k with
  | zero => rfl
  | succ k ih => simp [wsumTo, ih]
theorem weightC_nil (c : Cfg) : weightC c [] = 0 := by
  unfold weightC
  split
  · have : (fun i : Nat => decide ((i : Int) ∈ ([] : List Int))) = fun _ => false := by funext i; simp
    rw [this, wsumTo_false]
  · rfl
theorem onC_notree {l : List Blk} (h : ¬ Tree l) (c : Cfg) (vs : List Vote) (id : ID) : onC c l vs id = 0 := by
  have : whoOn l vs id = [] := by
    unfold whoOn
    simp [chain_notree h]
  unfold onC
  rw [this, weightC_nil]
end Go.Proofs.Ytkccakaaklemdaa
