/- marigoldref10.May, Top, walked. -/
import Derived.Test.YtibmfpcbjopojaaArrO
namespace Go.Proofs.Ytibmfpcbjopojaa
open Go.RowKit
theorem find_le {a : List Item} {k : Nat} (hk : k < a.length) : 0 ≤ findI a (itm a k).id ∧ findI a (itm a k).id ≤ k := by
  rcases find_spec a (itm a k).id with ⟨_, h⟩ | ⟨q, h1, h2, h3, h4⟩
  · exact absurd rfl (h k hk)
  · rw [h2]
    refine ⟨by omega, ?_⟩
    rcases Nat.lt_or_ge k q with h | h
    · exact absurd rfl (h4 k h)
    · omega
theorem may_same {a l : List Item} (hp : Plain a) (hl : a.length ≤ 60) (hs : Settled l) (hk : SameSk l a) : decide (MayA a) = decide (a = l) := by
  rw [Bool.eq_iff_iff]
  simp only [decide_eq_true_eq]
  constructor
  · intro hm
    exact (settled_uniq (hk.par hp.parOk) hk hs hm.2.2).symm
  · intro e
    subst e
    exact ⟨hl, hp, hs⟩
end Go.Proofs.Ytibmfpcbjopojaa
