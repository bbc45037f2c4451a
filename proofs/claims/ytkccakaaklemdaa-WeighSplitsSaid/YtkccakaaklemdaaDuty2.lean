/- What some weigh: marigoldref05.Weight. -/
import Derived.Test.YtkccakaaklemdaaDuty1
namespace Go.Proofs.Ytkccakaaklemdaa
open Go.RowKit
/-- What those below k weigh of which p is so. -/
def wsumTo (W : List Int) (p : Nat → Bool) : Nat → Int
  | 0 => 0
  | k + 1 => wsumTo W p k + (if p k then W[k]?.getD 0 else 0)
def weightC (c : Cfg) (who : List Int) : Int := if MayC c then wsumTo c.W (fun i => decide ((i : Int) ∈ who)) c.W.length else 0
def totalC (c : Cfg) : Int := if MayC c then wsumTo c.W (fun _ => true) c.W.length else 0
theorem wsumTo_bd {W : List Int} (h : ∀ x ∈ W, 0 ≤ x ∧ x ≤ 1099511627776) (p : Nat → Bool) (k : Nat) : 0 ≤ wsumTo W p k ∧ wsumTo W p k ≤ k * 1099511627776 := by
  induction k with
  | zero => simp [wsumTo]
  | succ k ih =>
    simp only [wsumTo]
    have hx : 0 ≤ W[k]?.getD 0 ∧ W[k]?.getD 0 ≤ 1099511627776 := by
      cases hk : W[k]? with
      | none => simp
      | some x => exact h x (List.mem_of_getElem? hk)
    split <;> omega
theorem MayC.W {c : Cfg} (h : MayC c) : ∀ x ∈ c.W, 0 ≤ x ∧ x ≤ 1099511627776 := h.1.2.2
theorem MayC.len {c : Cfg} (h : MayC c) : c.W.length ≤ 12 := h.1.2.1
end Go.Proofs.Ytkccakaaklemdaa
