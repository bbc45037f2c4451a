/- The walks of marigoldref06.MayIn and UnderIn. -/
import Derived.Test.YtkccakaaklemdaaRefMay
namespace Go.Proofs.Ytkccakaaklemdaa
open Go.RowKit
theorem idx_names {l : List Blk} {x : ID} : idxI (names l) x = -1 ∧ (∀ b ∈ l, nameOf b ≠ x) ∨ ∃ n : Nat, idxI (names l) x = n ∧ ∃ h : n < l.length, nameOf l[n] = x := by
  unfold idxI
  cases hf : (names l).findIdx? fun y => decide (y = x) with
  | none =>
    left
    rw [List.findIdx?_eq_none_iff] at hf
    refine ⟨rfl, fun b hb he => ?_⟩
    have := hf (nameOf b) (List.mem_map.2 ⟨b, hb, rfl⟩)
    simp [he] at this
  | some n =>
    right
    rw [List.findIdx?_eq_some_iff_getElem] at hf
    obtain ⟨h1, h2, _⟩ := hf
    simp only [names, List.length_map] at h1
    simp only [names, List.getElem_map, decide_eq_true_eq] at h2
    exact ⟨n, rfl, h1, h2⟩
theorem idx_up {l : List Blk} {x : ID} : idxI (names l) x < (l.length : Int) + 1 := by
  rcases idx_names (l := l) (x := x) with ⟨h, _⟩ | ⟨n, h, hn, _⟩ <;> omega
theorem par_idx {l : List Blk} (ht : Tree l) {n : Nat} (hn : n < l.length) : idxI (names l) l[n].par < n := by
  rcases idx_names (l := l) (x := l[n].par) with ⟨h, _⟩ | ⟨m, h, hm, he⟩
  · omega
  · rw [h]
    rcases (ht n hn).2.2 with ⟨hz, _⟩ | ⟨_, c, hc, h1, _⟩
    · exact absurd (he.trans hz) (ht m hm).1
    · obtain ⟨k, hk, rfl⟩ := List.getElem_of_mem hc
      simp only [List.length_take] at hk
      simp only [List.getElem_take] at h1
      have : m = k := tree_inj ht hm (by omega) (by rw [he, h1])
      omega
/-- What holds at the loop's head. -/
def UnderAt (l : List Blk) (low id x : ID) (j : Int) : Prop := idxI (names l) x = j ∧ (x = zid ∨ ∃ b ∈ l, nameOf b = x) ∧ (low ∈ chain l x ↔ low ∈ chain l id)
theorem UnderAt.zero {l : List Blk} {low id x : ID} {j : Int} (ht : Tree l) (h : UnderAt l low id x j) (hj : j < 0) : x = zid ∧ decide (x = low) = decide (low ∈ chain l id) := by
  obtain ⟨h1, h2, h3⟩ := h
  have hx : x = zid := by
    rcases h2 with e | ⟨b, hb, e⟩
    · exact e
    · rcases idx_names (l := l) (x := x) with ⟨_, hno⟩ | ⟨n, hn, _⟩
      · exact absurd e (hno b hb)
      · omega
  refine ⟨hx, ?_⟩
  subst hx
  rw [chain_zid ht] at h3
  by_cases he : low = zid
  · simp only [he, decide_true]; simpa [he] using h3
  · have he' : ¬ zid = low := fun e => he e.symm
    simpa [he, he'] using h3
theorem UnderAt.found {l : List Blk} {low id x : ID} {j : Int} (ht : Tree l) (h : UnderAt l low id x j) (hx : x = low) : decide (low ∈ chain l id) = true := by
  obtain ⟨_, h2, h3⟩ := h
  subst hx
  obtain ⟨r, hr⟩ := chain_head ht h2
  simpa using h3.1 (by rw [hr]; simp)
theorem UnderAt.step {l : List Blk} {low id x : ID} {n : Nat} (ht : Tree l) (h : UnderAt l low id x n) (hx : x ≠ low) : ∃ hn : n < l.length, UnderAt l low id l[n].par (idxI (names l) l[n].par) := by
  obtain ⟨h1, _, h3⟩ := h
  rcases idx_names (l := l) (x := x) with ⟨hi, _⟩ | ⟨m, hm, hml, hnm⟩
  · omega
  · have : m = n := by omega
    subst this
    refine ⟨hml, rfl, par_mem ht hml, ?_⟩
    rw [← h3, ← hnm, chain_cons ht hml]
    simp only [List.mem_cons]
    constructor
    · exact .inr
    · rintro (e | e)
      · exact absurd (hnm.symm.trans e.symm) hx
      · exact e
end Go.Proofs.Ytkccakaaklemdaa
