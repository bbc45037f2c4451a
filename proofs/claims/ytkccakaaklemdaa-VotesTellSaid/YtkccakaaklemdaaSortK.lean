/- A row of a call's own, of elements of some cells each, that the library's sort has laid anew. -/
import Derived.Test.YtkccakaaklemdaaCut
import Derived.Test.YtkccakaaklemdaaShelf
import Derived.Shelf.GgSortFunc.InsertionK
namespace Go.Proofs.Ytkccakaaklemdaa
open Go.RowKit
section
variable {α : Type} [Inhabited α] {enc : α → List Value} {k : Nat}
theorem flatK_list (hk : ∀ x, (enc x).length = k) (hk0 : 0 < k) (d : Array α) : (Sort.flatK enc k d).toList = d.toList.flatMap enc := by
  have hl : (d.toList.flatMap enc).length = d.size * k := by rw [flatMap_len hk]; simp
  apply List.ext_getElem?
  intro t
  by_cases ht : t < d.size * k
  · have hq : t / k < d.size := Nat.div_lt_of_lt_mul (by rwa [Nat.mul_comm])
    have hr : t % k < k := Nat.mod_lt _ hk0
    have h1 : (Sort.flatK enc k d).toList[t]? = some ((enc d[t / k]!)[t % k]!) := by
      have hs : t < (Sort.flatK enc k d).size := by simpa using ht
      have := Sort.get_flatK enc k d t ht
      rw [getElem!_pos _ t hs] at this
      rw [Array.getElem?_toList, Array.getElem?_eq_getElem hs, this]
    have hge : d.toList[t / k]? = some d[t / k]! := by simp [hq]
    have hlen : t % k < (enc d[t / k]!).length := by rw [hk]; exact hr
    have h2 := flatMap_get hk d.toList (t / k) _ hge (t % k) _ (List.getElem?_eq_getElem hlen)
    have hd : t / k * k + t % k = t := by rw [Nat.mul_comm]; exact Nat.div_add_mod t k
    rw [hd] at h2
    rw [h1, h2, getElem!_pos (enc d[t / k]!) (t % k) hlen]
  · rw [List.getElem?_eq_none (by simp; omega), List.getElem?_eq_none (by rw [hl]; omega)]
theorem Own.holdsK (hk : ∀ x, (enc x).length = k) (hk0 : 0 < k) {w : World} {e : TypeId} {g : Nat} {cur : Array Value} {l : List α} (hh : w.heap[g]? = some (.cells cur e (0, 0))) (ht : cur.toList.take (l.length * k) = l.flatMap enc) :
    Sort.HoldsK enc k w g 0 l.toArray := by
  intro j hj
  have hj' : j < l.length * k := by simpa using hj
  refine ⟨?_, by simp [World.frozen?, hh]⟩
  rw [Nat.zero_add, blk_cell hh j]
  have h1 := flatK_list hk hk0 l.toArray
  have h2 : (cur.toList.take (l.length * k))[j]? = (Sort.flatK enc k l.toArray).toList[j]? := by rw [ht, h1]
  rw [List.getElem?_take_of_lt hj'] at h2
  rw [getElem!_pos _ j hj]
  simp only [id]
  have h3 : (Sort.flatK enc k l.toArray).toList[j]? = some ((Sort.flatK enc k l.toArray)[j]) := by simp
  rw [h3] at h2
  simpa using h2
theorem rowK_heap {w : World} {g : Nat} {cur : Array Value} {e : TypeId} (hh : w.heap[g]? = some (.cells cur e (0, 0))) (F : Array Value) (n : Nat) (os : Array Obj) :
    (Sort.grow (Sort.putRow id (Sort.ahead w n) g 0 F) os).heap[g]? = some (.cells (Sort.putCells id 0 F cur) e (0, 0)) := by
  have hlt := lt_of_block hh
  rw [Sort.heap_grow_old _ _ (by simpa using hlt)]
  simp [Sort.putRow, Sort.mapBlock, Array.getElem?_modify, hh, Sort.onCells]
theorem rowK_other {w : World} {g j : Nat} (hj : j < w.heap.size) (hne : j ≠ g) (F : Array Value) (n : Nat) (os : Array Obj) :
    (Sort.grow (Sort.putRow id (Sort.ahead w n) g 0 F) os).heap[j]? = w.heap[j]? := by
  rw [Sort.heap_grow_old _ _ (by simpa using hj)]
  simp [Sort.putRow, Sort.mapBlock, Array.getElem?_modify, Ne.symm hne]
theorem putCellsK_take {cur : Array Value} {F : Array Value} (h : F.size ≤ cur.size) : (Sort.putCells id 0 F cur).toList.take F.size = F.toList := by
  apply List.ext_getElem?
  intro j
  rw [List.getElem?_take]
  by_cases hj : j < F.size
  · have hc : j < cur.size := by omega
    simp [Sort.putCells, hj, hc]
  · simp [hj]
theorem Own.relaidK (hk : ∀ x, (enc x).length = k) (hk0 : 0 < k) {w : World} {base : Nat} {e : TypeId} {g cap : Nat} {cur : Array Value} (hb : base ≤ g) (hh : w.heap[g]? = some (.cells cur e (0, 0))) (hm : cap ≤ maxLen) (hs : cur.size = cap * k) (d : Array α) (hd : d.size ≤ cap) (n : Nat) (os : Array Obj) :
    Own (sortWorldK enc k w g 0 n d os) base e k enc (.slice (some ⟨g, 0, none⟩) d.size cap) d.toList := by
  refine ⟨by rw [flatMap_len hk], .inr ⟨g, cap, _, by simp, hb, rowK_heap hh _ n os, by simpa using hd, hm, by simp [Sort.putCells, hs], ?_⟩⟩
  have hF : (Sort.flatK enc k d).size ≤ cur.size := by rw [Sort.size_flatK, hs]; exact Nat.mul_le_mul_right k hd
  have ht := putCellsK_take hF
  rw [Sort.size_flatK] at ht
  rw [← flatK_list hk hk0, ← ht]
  simp
theorem grownBy_rowK {w : World} {g : Nat} (d : Array α) (n : Nat) (os : Array Obj) : w.grownBy (sortWorldK enc k w g 0 n d os) (some g) :=
  ⟨rfl, rfl, rfl, by unfold sortWorldK Sort.putRowK; simp, fun j hj hne => rowK_other hj (fun e => hne (by rw [e])) _ n os⟩
theorem permIn_whole {d d' : Array α} (h : Sort.PermIn 0 d.size d d') : d'.toList.Perm d.toList := by
  obtain ⟨h1, _, h3⟩ := h
  have e1 : (d'.extract 0 d.size) = d' := by rw [← h1]; simp
  have e2 : (d.extract 0 d.size) = d := by simp
  rw [e1, e2] at h3
  exact h3
theorem sortedIn_pairwise {lt : α → α → Bool} {d : Array α} {n : Nat} (hn : d.size = n) (h : Sort.SortedIn lt 0 n d) : d.toList.Pairwise (fun x y => lt y x = false) := by
  rw [List.pairwise_iff_getElem]
  intro i j hi hj hij
  have hi' : i < d.size := by simpa using hi
  have hj' : j < d.size := by simpa using hj
  have := h i j (Nat.zero_le _) hij (by omega)
  rw [getElem!_pos d i hi', getElem!_pos d j hj'] at this
  simpa using this
end
end Go.Proofs.Ytkccakaaklemdaa
