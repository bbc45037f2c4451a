/- The walk of marigoldref06.may. -/
import Derived.Test.YtkccakaaklemdaaRef
namespace Go.Proofs.Ytkccakaaklemdaa
open Go.RowKit
theorem names_take (l : List Blk) (k : Nat) : (names l).take k = names (l.take k) := by simp [names, List.map_take]
theorem mem_names {l : List Blk} {x : ID} : x ∈ names l ↔ ∃ b ∈ l, nameOf b = x := by simp [names]
theorem tree_pos {l : List Blk} (h : Tree l) : ∀ i (hi : i < l.length), 0 < l[i].slot := by
  intro i
  induction i using Nat.strongRecOn with
  | _ i ih =>
    intro hi
    rcases (h i hi).2.2 with ⟨_, h1⟩ | ⟨_, c, hc, _, h1⟩
    · exact h1
    · obtain ⟨j, hj, rfl⟩ := List.getElem_of_mem hc
      simp only [List.length_take] at hj
      have := ih j (by omega) (by omega)
      simp only [List.getElem_take] at h1
      omega
end Go.Proofs.Ytkccakaaklemdaa
