/- marigoldref10.Insert and Move, walked. (Printed by gen_rins.py.) -/
import Derived.Test.YtibmfpcbjopojaaArrR
namespace Go.Proofs.Ytibmfpcbjopojaa
open Go.RowKit
theorem SameSk.trans {a b c : List Item} (h1 : SameSk a b) (h2 : SameSk b c) : SameSk a c := ⟨h1.1.trans h2.1, fun i hi => by
  obtain ⟨x1, x2, x3⟩ := h1.2 i hi
  obtain ⟨y1, y2, y3⟩ := h2.2 i (by rw [← h1.1]; exact hi)
  exact ⟨x1.trans y1, x2.trans y2, x3.trans y3⟩⟩
def bareItem (id : ID) (par : Int) : Item := ⟨id, par, 0, 0, 0, 0⟩
theorem bare_sk (a : List Item) (id : ID) (par : Int) : SameSk (a ++ [bareItem id par]) (a ++ [newItem id par a.length]) := ⟨by simp, fun i hi => by
  simp at hi
  by_cases e : i < a.length
  · rw [itm_app _ _ _ e, itm_app _ _ _ e]; exact ⟨rfl, rfl, rfl⟩
  · obtain rfl : i = a.length := by omega
    rw [itm_new, itm_new]; exact ⟨rfl, rfl, rfl⟩⟩
theorem bare_ok {a : List Item} (hM : MayA a) (id : ID) {par : Int} (h1 : -1 ≤ par) (h2 : par < a.length) : ParOk (a ++ [bareItem id par]) ∧ ∀ i, i < (a ++ [bareItem id par]).length → 0 ≤ (itm (a ++ [bareItem id par]) i).own ∧ (itm (a ++ [bareItem id par]) i).own ≤ 1125899906842624 := by
  constructor
  · intro i hi
    simp at hi
    by_cases e : i < a.length
    · rw [itm_app _ _ _ e]; exact hM.2.1.parOk i e
    · obtain rfl : i = a.length := by omega
      rw [itm_new]; exact ⟨h1, h2⟩
  · intro i hi
    simp at hi
    by_cases e : i < a.length
    · rw [itm_app _ _ _ e]; exact (hM.2.1 i e).2.2.2.2
    · obtain rfl : i = a.length := by omega
      rw [itm_new]; unfold bareItem; simp
theorem moved_ok {a : List Item} (hM : MayA a) {k : Nat} (hk : k < a.length) {y : Int} (h1 : 0 ≤ (itm a k).own + y) (h2 : (itm a k).own + y ≤ 1125899906842624) : ParOk (moved a k y) ∧ ∀ i, i < (moved a k y).length → 0 ≤ (itm (moved a k y) i).own ∧ (itm (moved a k y) i).own ≤ 1125899906842624 := by
  have hl : (moved a k y).length = a.length := by simp [moved]
  have hit : ∀ i, itm (moved a k y) i = if i = k then { itm a k with own := (itm a k).own + y } else itm a i := fun i => itm_set a k i _ hk
  constructor
  · intro i hi
    rw [hl] at hi
    rw [hit]
    by_cases e : i = k
    · subst e; rw [if_pos rfl]; exact hM.2.1.parOk i hi
    · rw [if_neg e]; exact hM.2.1.parOk i hi
  · intro i hi
    rw [hl] at hi
    rw [hit]
    by_cases e : i = k
    · subst e; rw [if_pos rfl]; exact ⟨h1, h2⟩
    · rw [if_neg e]; exact (hM.2.1 i hi).2.2.2.2
end Go.Proofs.Ytibmfpcbjopojaa
