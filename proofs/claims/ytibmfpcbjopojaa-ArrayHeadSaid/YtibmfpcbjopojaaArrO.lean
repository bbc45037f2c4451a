/- marigoldref10.Anew, walked. -/
import Derived.Test.YtibmfpcbjopojaaArrM
import Derived.Test.YtibmfpcbjopojaaArrN
import Derived.StillTailTactics
namespace Go.Proofs.Ytibmfpcbjopojaa
open Go.RowKit
theorem Own.setG {w : World} {base : Nat} {e : TypeId} {g n cap : Nat} {b : List Item} {i : Nat} {X : Item} (h : Own w base e 7 encItem (.slice (some ⟨g, 0, none⟩) n cap) (b.set i X)) (hi : i < b.length) (j : Nat) (hj : j < 7) (u : Value) (Y : Item) (hY : encItem Y = (encItem X).set j u) :
    Own (w.setCell ⟨g, i * 7 + j, none⟩ u) base e 7 encItem (.slice (some ⟨g, 0, none⟩) n cap) (b.set i Y) := by
  have := h.setF (i := i) (by simpa using hi) j hj u Y (by rw [itm_set _ _ _ _ hi, if_pos rfl]; exact hY)
  simpa [List.set_set] using this
/-- The item i of a stage. -/
def stIt (b : List Item) (i : Nat) (s m h : Int) : Item := { itm b i with w := s, best := m, head := h }
theorem stage_low {b : List Item} (hp : ParOk b) {i : Nat} (hi : i < b.length) : stage b i (i + 1) = b.set i (stIt b i (itm b i).own (-1) i) := by
  obtain ⟨h1, h2⟩ := low_sum hp (i := i) (k := i + 1) (Nat.le_refl _) (by omega)
  unfold stage stIt
  rw [h1, h2, if_pos rfl, Int.add_zero]
theorem stage_skip {b : List Item} {i k : Nat} (h : (itm b k).par ≠ i) : stage b i (k + 1) = stage b i k := by
  unfold stage
  rw [show wsum b i (k + 1) = wsum b i k by show wsum b i k + (if (itm b k).par = i then (itm b k).w else 0) = _; rw [if_neg h, Int.add_zero], show bestTo b i (k + 1) = bestTo b i k from if_neg (fun h2 => h h2.1)]
theorem wsum_kid {b : List Item} {i k : Nat} (h : (itm b k).par = i) : wsum b i (k + 1) = wsum b i k + (itm b k).w := by
  show wsum b i k + (if (itm b k).par = i then (itm b k).w else 0) = _
  rw [if_pos h]
theorem stage_new {b : List Item} {i k : Nat} (h : (itm b k).par = i) (h2 : bestTo b i k = -1 ∨ better (itm b k) (itm b (bestTo b i k).toNat) = true) : stage b i (k + 1) = b.set i (stIt b i ((itm b i).own + wsum b i k + (itm b k).w) k (itm b k).head) := by
  unfold stage stIt
  rw [wsum_kid h, show bestTo b i (k + 1) = k from if_pos ⟨h, h2⟩, if_neg (by omega), ← Int.add_assoc]
  simp only [Int.toNat_natCast]
theorem stage_old {b : List Item} {i k j : Nat} (h : (itm b k).par = i) (hj : bestTo b i k = j) (h2 : ¬ better (itm b k) (itm b j) = true) : stage b i (k + 1) = b.set i (stIt b i ((itm b i).own + wsum b i k + (itm b k).w) j (itm b j).head) := by
  have e : bestTo b i (k + 1) = j := by
    show (if (itm b k).par = i ∧ (bestTo b i k = -1 ∨ better (itm b k) (itm b (bestTo b i k).toNat) = true) then (k : Int) else bestTo b i k) = j
    rw [hj, if_neg]
    rintro ⟨_, h3 | h3⟩
    · omega
    · simp only [Int.toNat_natCast] at h3; exact h2 h3
  unfold stage stIt
  rw [wsum_kid h, e, if_neg (by omega), ← Int.add_assoc]
  simp only [Int.toNat_natCast]
theorem stage_is (b : List Item) (i k : Nat) : stage b i k = b.set i (stIt b i ((itm b i).own + wsum b i k) (bestTo b i k) (if bestTo b i k = -1 then (i : Int) else (itm b (bestTo b i k).toNat).head)) := rfl
end Go.Proofs.Ytibmfpcbjopojaa
