/- The walks of tree.Name and slices.Index, slices.Contains of IDs. -/
import Derived.Test.YtigdbcfpamnkcaaMix
import Derived.Test.YtigdbcfpamnkcaaKeys
import Derived.Lib.Hide
namespace Go.Proofs.Ytigdbcfpamnkcaa
open Go.RowKit
def nameOf (b : Blk) : ID := mixOf [1, IntKind.u64.wrap b.slot, IntKind.u64.wrap b.frm, b.par.1, b.par.2, b.salt]
/-- Where x is; -1: nowhere. -/
def idxI {α : Type} [DecidableEq α] (xs : List α) (x : α) : Int := match xs.findIdx? fun y => decide (y = x) with | some i => (i : Int) | none => -1
theorem idx_hit {α : Type} [DecidableEq α] {xs : List α} {x : α} {k : Nat} (hlt : k < xs.length) (hno : x ∉ xs.take k) (h : x = xs[k]) : idxI xs x = (k : Int) := by
  have : xs.findIdx? (fun y => decide (y = x)) = some k := by
    rw [List.findIdx?_eq_some_iff_getElem]
    refine ⟨hlt, by simp [h], fun j hj => ?_⟩
    have : xs[j] ≠ x := fun e => hno (by rw [← e]; exact List.mem_take_iff_getElem.2 ⟨j, by omega, rfl⟩)
    simpa using this
  unfold idxI
  rw [this]
theorem idx_miss {α : Type} [DecidableEq α] {xs : List α} {x : α} (hno : x ∉ xs) : idxI xs x = -1 := by
  have : xs.findIdx? (fun y => decide (y = x)) = none := by
    rw [List.findIdx?_eq_none_iff]
    intro y hy
    have : y ≠ x := fun e => hno (e ▸ hy)
    simpa using this
  unfold idxI
  rw [this]
theorem idx_mem {α : Type} [DecidableEq α] (xs : List α) (x : α) : decide (0 ≤ idxI xs x) = decide (x ∈ xs) := by
  by_cases h : x ∈ xs
  · obtain ⟨i, hi⟩ : ∃ i, xs.findIdx? (fun y => decide (y = x)) = some i := by
      cases hf : xs.findIdx? (fun y => decide (y = x)) with
      | some i => exact ⟨i, rfl⟩
      | none =>
        rw [List.findIdx?_eq_none_iff] at hf
        have := hf x h
        simp at this
    have : idxI xs x = (i : Int) := by unfold idxI; rw [hi]
    rw [this]
    simp [h]
  · rw [idx_miss h]
    simp [h]
theorem idx_low {α : Type} [DecidableEq α] (xs : List α) (x : α) : -1 ≤ idxI xs x := by
  unfold idxI
  cases xs.findIdx? (fun y => decide (y = x)) with
  | none => exact Int.le_refl _
  | some i => simp only; omega
theorem not_mem_step {α : Type} {xs : List α} {x : α} {k : Nat} (hlt : k < xs.length) (hno : x ∉ xs.take k) (h : ¬ x = xs[k]) : x ∉ xs.take (k + 1) := by
  rw [← List.take_append_getElem hlt]
  simp only [List.mem_append, List.mem_singleton]
  exact fun e => e.elim hno h
end Go.Proofs.Ytigdbcfpamnkcaa
