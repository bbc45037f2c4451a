/- slices.Sort and slices.Compact of ints, of a slice of the call's own. -/
import Derived.Test.YtkccakaaklemdaaBase
import Derived.Test.YtkccakaaklemdaaEnc
import Derived.Test.YtkccakaaklemdaaShelf
namespace Go.Proofs.Ytkccakaaklemdaa
open Go.RowKit
theorem encI_flat (l : List Int) : l.flatMap encI = l.map (Value.int .i64) := by
  induction l with
  | nil => rfl
  | cons x l ih => simp [encI, ih]
theorem Own.block {α : Type} {w : World} {base : Nat} {e : TypeId} {k : Nat} {enc : α → List Value} {v : Value} {xs : List α} (h : Own w base e k enc v xs) :
    (v = .slice none 0 0 ∧ xs = []) ∨ ∃ g cap cur, v = .slice (some ⟨g, 0, none⟩) xs.length cap ∧ base ≤ g ∧ w.heap[g]? = some (.cells cur e (0, 0)) ∧ xs.length ≤ cap ∧ cap ≤ maxLen ∧ cur.size = cap * k ∧ cur.toList.take (xs.length * k) = xs.flatMap enc := by
  rcases h.2 with ⟨h1, h2⟩ | h2
  · exact .inl ⟨h1, List.eq_nil_of_length_eq_zero h2⟩
  · exact .inr h2
/-- The cells of an owned row of ints. -/
theorem Own.holdsI {w : World} {e : TypeId} {g : Nat} {cur : Array Value} {l : List Int} (hh : w.heap[g]? = some (.cells cur e (0, 0))) (ht : cur.toList.take (l.length * 1) = l.flatMap encI) :
    Sort.Holds (Value.int .i64) w g 0 l.toArray := by
  intro j hj
  have hj' : j < l.length := by simpa using hj
  refine ⟨?_, by simp [World.frozen?, hh]⟩
  rw [Nat.zero_add, blk_cell hh j]
  rw [encI_flat, Nat.mul_one] at ht
  have h1 : (cur.toList.take l.length)[j]? = some (.int .i64 l[j]) := by rw [ht]; simp [hj']
  rw [List.getElem?_take_of_lt hj'] at h1
  rw [getElem!_pos _ j hj]
  simpa using h1
theorem putRow_heap {w : World} {g : Nat} {cur : Array Value} {e : TypeId} (hh : w.heap[g]? = some (.cells cur e (0, 0))) (d : Array Int) (n : Nat) (os : Array Obj) :
    (Sort.grow (Sort.putRow (Value.int .i64) (Sort.ahead w n) g 0 d) os).heap[g]? = some (.cells (Sort.putCells (Value.int .i64) 0 d cur) e (0, 0)) := by
  have hlt := lt_of_block hh
  rw [Sort.heap_grow_old _ _ (by simpa using hlt)]
  simp [Sort.putRow, Sort.mapBlock, Array.getElem?_modify, hh, Sort.onCells]
theorem putRow_other {w : World} {g k : Nat} (hk : k < w.heap.size) (hne : k ≠ g) (d : Array Int) (n : Nat) (os : Array Obj) :
    (Sort.grow (Sort.putRow (Value.int .i64) (Sort.ahead w n) g 0 d) os).heap[k]? = w.heap[k]? := by
  rw [Sort.heap_grow_old _ _ (by simpa using hk)]
  simp [Sort.putRow, Sort.mapBlock, Array.getElem?_modify, Ne.symm hne]
theorem putCells_take {cur : Array Value} {d : List Int} (h : d.length ≤ cur.size) : (Sort.putCells (Value.int .i64) 0 d.toArray cur).toList.take d.length = d.map (Value.int .i64) := by
  apply List.ext_getElem?
  intro j
  rw [List.getElem?_take]
  by_cases hj : j < d.length
  · have hc : j < cur.size := by omega
    simp [Sort.putCells, hj, hc]
  · simp [hj]
/-- An owned row over which other ints are laid. -/
theorem Own.relaid {w : World} {base : Nat} {e : TypeId} {g cap : Nat} {cur : Array Value} (hb : base ≤ g) (hh : w.heap[g]? = some (.cells cur e (0, 0))) (hm : cap ≤ maxLen) (hs : cur.size = cap * 1) (d : List Int) (hd : d.length ≤ cap) (m : Nat) (hmd : m ≤ d.length) (n : Nat) (os : Array Obj) :
    Own (Sort.grow (Sort.putRow (Value.int .i64) (Sort.ahead w n) g 0 d.toArray) os) base e 1 encI (.slice (some ⟨g, 0, none⟩) m cap) (d.take m) := by
  have hml : (d.take m).length = m := by simp; omega
  refine ⟨by rw [encI_flat]; simp, .inr ⟨g, cap, _, by rw [hml], hb, putRow_heap hh _ n os, by omega, hm, by simp [Sort.putCells, hs], ?_⟩⟩
  have ht := putCells_take (cur := cur) (d := d) (by omega)
  rw [hml, encI_flat, Nat.mul_one, List.map_take, ← ht, List.take_take, Nat.min_eq_left hmd]
theorem grownBy_putRow {w : World} {g : Nat} (d : Array Int) (n : Nat) (os : Array Obj) : w.grownBy (Sort.grow (Sort.putRow (Value.int .i64) (Sort.ahead w n) g 0 d) os) (some g) :=
  ⟨rfl, rfl, rfl, by simp, fun k hk hne => putRow_other hk (fun e => hne (by rw [e])) d n os⟩
def isort (l : List Int) : List Int := l.mergeSort fun x y => decide (x ≤ y)
theorem isort_len (l : List Int) : (isort l).length = l.length := List.length_mergeSort _
theorem mem_isort {l : List Int} {x : Int} : x ∈ isort l ↔ x ∈ l := List.mem_mergeSort
theorem isort_le (l : List Int) : (isort l).Pairwise (· ≤ ·) := by
  have := List.pairwise_mergeSort (le := fun (x y : Int) => decide (x ≤ y)) (by intro a b c; simp; omega) (by intro a b; simp; omega) l
  exact this.imp (by simp)
theorem isort_perm (l : List Int) : (isort l).Perm l := List.mergeSort_perm _ _
theorem isort_any (l : List Int) (v : Value) (base : Nat) (w : World) (hown : Own w base 3 1 encI v l) (hl : l.length < 4611686018427387904) :
    Calls Try.prog 41 #[v] w fun e w' => e = .returned (.tuple #[]) ∧ Own w' base 3 1 encI v (isort l) ∧ w.grownBy w' v.ownBlock := by
  rcases hown.block with ⟨rfl, rfl⟩ | ⟨g, cap, cur, rfl, hb, hh, hle, hm, hs, ht⟩
  · refine (sh_slices_Sort_int_none none 0 w).mono fun e w' ⟨he, hw⟩ => ?_
    subst hw
    exact ⟨he, by rw [show isort [] = [] by simp [isort]]; exact Own.nil _ _ _ _ _, rfl, rfl, rfl, Nat.le_refl _, fun _ _ _ => rfl⟩
  · refine (sh_slices_Sort_int g 0 cap l w (Own.holdsI hh ht) (lt_of_block hh) hl).mono fun e w' ⟨he, n, os, hw⟩ => ?_
    subst hw
    refine ⟨he, ?_, grownBy_putRow _ n os⟩
    have := Own.relaid hb hh hm hs (isort l) (by rw [isort_len]; exact hle) l.length (by rw [isort_len]; exact Nat.le_refl _) n os
    rw [List.take_of_length_le (by rw [isort_len]; exact Nat.le_refl _)] at this
    exact this
end Go.Proofs.Ytkccakaaklemdaa
