/- GD: several texts in one. -/
import Derived.Test.YtaohkcdfjjiggaaGreatGA
import Derived.Test.YtaohkcdfjjiggaaGreatShelf
import Derived.Lib.RowBridge
import Derived.Lib.Hide
import Derived.Shelf.GgSortFunc.InsertionK
import Derived.Shelf.SlSortCmp.WholeK
import Derived.Shelf.SlSortCmp.NoneTotal
import Derived.Shelf.SlIter.Collect
import Derived.RangeFuncNested
import Derived.RangeFuncBound
import Derived.RangeFuncCalls
import Derived.RangeFuncLeaves
import Derived.Shelf.Abstract
import Derived.Shelf.RegionOpen
import Derived.WalkKit
import Derived.OwnWalkIn
import Derived.TacticsInMore
import Derived.LoopNIn
import Derived.LoopIn
import Derived.Sort.MapsRangeIn
/-! Votes that nobody may have both (the plain law). -/
namespace Go.Proofs.YtaohkcdfjjiggaaGreat
structure Chk where
  epoch : Int
  root : ID
  deriving DecidableEq
structure Lnk where
  frm : Int
  src : Chk
  tgt : Chk
  deriving DecidableEq
def encLnk (x : Lnk) : List Value := [.int .i64 x.frm, .int .i64 x.src.epoch, .int .u64 x.src.root.hi, .int .u64 x.src.root.lo, .int .i64 x.tgt.epoch, .int .u64 x.tgt.root.hi, .int .u64 x.tgt.root.lo]
def lnkv (x : Lnk) : Value := .agg #[.int .i64 x.frm, .int .i64 x.src.epoch, .int .u64 x.src.root.hi, .int .u64 x.src.root.lo, .int .i64 x.tgt.epoch, .int .u64 x.tgt.root.hi, .int .u64 x.tgt.root.lo]
def Spans (a b : Lnk) : Prop := a.src.epoch < b.src.epoch ∧ b.tgt.epoch < a.tgt.epoch
def Pair (a b : Lnk) : Prop := a.frm = b.frm ∧ (Spans a b ∨ Spans b a ∨ (a ≠ b ∧ a.tgt.epoch = b.tgt.epoch))
instance (a b : Lnk) : Decidable (Spans a b) := by unfold Spans; exact inferInstance
instance (a b : Lnk) : Decidable (Pair a b) := by unfold Pair; exact inferInstance
theorem pair_symm {a b : Lnk} : Pair a b ↔ Pair b a := by
  unfold Pair
  constructor
  · rintro ⟨h, h1 | h1 | ⟨h1, h2⟩⟩
    · exact ⟨h.symm, .inr (.inl h1)⟩
    · exact ⟨h.symm, .inl h1⟩
    · exact ⟨h.symm, .inr (.inr ⟨fun e => h1 e.symm, h2.symm⟩)⟩
  · rintro ⟨h, h1 | h1 | ⟨h1, h2⟩⟩
    · exact ⟨h.symm, .inr (.inl h1)⟩
    · exact ⟨h.symm, .inl h1⟩
    · exact ⟨h.symm, .inr (.inr ⟨fun e => h1 e.symm, h2.symm⟩)⟩
theorem pair_irrefl (a : Lnk) : ¬ Pair a a := by
  rintro ⟨_, h1 | h1 | ⟨h1, _⟩⟩
  · unfold Spans at h1; omega
  · unfold Spans at h1; omega
  · exact h1 rfl
/-- f has two such. -/
def Guilt (v : List Lnk) (f : Int) : Prop := ∃ x ∈ v, ∃ y ∈ v, Pair x y ∧ x.frm = f
/-- The numbers rise. -/
def Rises : List Int → Prop
  | [] => True
  | x :: xs => (∀ y ∈ xs, x < y) ∧ Rises xs
def IsGuilty (v : List Lnk) (g : List Int) : Prop := Rises g ∧ ∀ f, f ∈ g ↔ Guilt v f
theorem rises_uniq : ∀ {g h : List Int}, Rises g → Rises h → (∀ f, f ∈ g ↔ f ∈ h) → g = h
  | [], [], _, _, _ => rfl
  | [], y :: ys, _, _, e => by have := (e y).2 (by simp); simp at this
  | x :: xs, [], _, _, e => by have := (e x).1 (by simp); simp at this
  | x :: xs, y :: ys, hg, hh, e => by
    have hxy : x = y := by
      have h1 := (e x).1 (by simp)
      have h2 := (e y).2 (by simp)
      simp only [List.mem_cons] at h1 h2
      rcases h1 with h1 | h1
      · exact h1
      · rcases h2 with h2 | h2
        · exact h2.symm
        · have := hh.1 x h1; have := hg.1 y h2; omega
    subst hxy
    congr 1
    refine rises_uniq hg.2 hh.2 (fun f => ?_)
    constructor
    · intro hf
      have := (e f).1 (by simp [hf])
      simp only [List.mem_cons] at this
      rcases this with h | h
      · subst h; have := hg.1 f hf; omega
      · exact h
    · intro hf
      have := (e f).2 (by simp [hf])
      simp only [List.mem_cons] at this
      rcases this with h | h
      · subst h; have := hh.1 f hf; omega
      · exact h
theorem guilty_uniq {v : List Lnk} {g h : List Int} (hg : IsGuilty v g) (hh : IsGuilty v h) : g = h := rises_uniq hg.1 hh.1 (fun f => (hg.2 f).trans (hh.2 f).symm)
/-- Who is found by looking back only. -/
theorem guilt_back (v : List Lnk) (f : Int) : Guilt v f ↔ ∃ i, ∃ h : i < v.length, (∃ x ∈ v.take i, Pair v[i] x) ∧ v[i].frm = f := by
  constructor
  · rintro ⟨x, hx, y, hy, hp, hf⟩
    obtain ⟨i, hi, rfl⟩ := List.getElem_of_mem hx
    obtain ⟨j, hj, rfl⟩ := List.getElem_of_mem hy
    rcases Nat.lt_trichotomy i j with h | h | h
    · exact ⟨j, hj, ⟨v[i], List.mem_take_iff_getElem.2 ⟨i, by omega, rfl⟩, pair_symm.1 hp⟩, by rw [← hf]; exact hp.1.symm⟩
    · subst h; exact absurd hp (pair_irrefl _)
    · exact ⟨i, hi, ⟨v[j], List.mem_take_iff_getElem.2 ⟨j, by omega, rfl⟩, hp⟩, hf⟩
  · rintro ⟨i, hi, ⟨x, hx, hp⟩, hf⟩
    exact ⟨v[i], List.getElem_mem hi, x, List.mem_of_mem_take hx, hp, hf⟩
theorem guilt_more {v : List Lnk} {a : Lnk} {f : Int} (h : Guilt v f) : Guilt (v ++ [a]) f := by
  obtain ⟨x, hx, y, hy, hp, hf⟩ := h
  exact ⟨x, by simp [hx], y, by simp [hy], hp, hf⟩
theorem guilt_new {v : List Lnk} {a : Lnk} {f : Int} (h : Guilt (v ++ [a]) f) : Guilt v f ∨ f = a.frm := by
  obtain ⟨x, hx, y, hy, hp, hf⟩ := h
  rw [List.mem_append, List.mem_singleton] at hx hy
  rcases hx with hx | rfl
  · rcases hy with hy | rfl
    · exact .inl ⟨x, hx, y, hy, hp, hf⟩
    · exact .inr (by rw [← hf]; exact hp.1)
  · exact .inr hf.symm
theorem guilt_twice {a : Lnk} {f : Int} : ¬ Guilt [a, a] f := by
  rintro ⟨x, hx, y, hy, hp, _⟩
  simp at hx hy
  subst hx
  subst hy
  exact pair_irrefl _ hp
/-- Only one's own votes count. -/
theorem guilt_own {v : List Lnk} {w f : Int} : Guilt (v.filter (fun x => decide (x.frm = w))) f ↔ Guilt v f ∧ f = w := by
  constructor
  · rintro ⟨x, hx, y, hy, hp, hf⟩
    simp only [List.mem_filter, decide_eq_true_eq] at hx hy
    exact ⟨⟨x, hx.1, y, hy.1, hp, hf⟩, by rw [← hf]; exact hx.2⟩
  · rintro ⟨⟨x, hx, y, hy, hp, hf⟩, rfl⟩
    refine ⟨x, ?_, y, ?_, hp, hf⟩
    · simp only [List.mem_filter, decide_eq_true_eq]; exact ⟨hx, hf⟩
    · simp only [List.mem_filter, decide_eq_true_eq]; exact ⟨hy, by rw [← hf]; exact hp.1.symm⟩
theorem own_one {v : List Lnk} {w : Int} {g n : List Int} (hg : IsGuilty v g) (hn : IsGuilty (v.filter (fun x => decide (x.frm = w))) n) : n = if w ∈ g then [w] else [] := by
  by_cases h : w ∈ g
  · rw [if_pos h]
    refine rises_uniq hn.1 ⟨by simp, trivial⟩ (fun f => ?_)
    rw [hn.2, guilt_own, List.mem_singleton, ← hg.2]
    constructor
    · exact fun h => h.2
    · rintro rfl; exact ⟨h, rfl⟩
  · rw [if_neg h]
    refine rises_uniq hn.1 trivial (fun f => ?_)
    rw [hn.2, guilt_own, ← hg.2]
    simp only [List.not_mem_nil, iff_false]
    rintro ⟨h1, rfl⟩
    exact h h1
/-- Who has but one vote is not guilty. -/
theorem own_two {v : List Lnk} {w : Int} (h : Guilt v w) : 1 < (v.filter (fun x => decide (x.frm = w))).length := by
  obtain ⟨x, hx, y, hy, hp, hf⟩ := (guilt_own (w := w) (f := w)).2 ⟨h, rfl⟩
  generalize v.filter (fun x => decide (x.frm = w)) = l at hx hy
  match l, hx, hy with
  | [], hx, _ => simp at hx
  | [a], hx, hy =>
    simp at hx hy
    subst hx
    subst hy
    exact absurd hp (pair_irrefl _)
  | a :: b :: r, _, _ => simp
/-! The insertion of one more into rising numbers, and what sorting and dropping doubles leaves. -/
theorem rises_le {g : List Int} (h : Rises g) : ∀ i j (hi : i < g.length) (hj : j < g.length), i < j → g[i] < g[j] := by
  induction g with
  | nil => intro i j hi; simp at hi
  | cons x xs ih =>
    intro i j hi hj hij
    cases j with
    | zero => omega
    | succ j =>
      cases i with
      | zero => exact h.1 _ (List.getElem_mem _)
      | succ i => exact ih h.2 i j (by simpa using hi) (by simpa using hj) (by omega)
theorem rises_of {g : List Int} (h : ∀ i (hi : i + 1 < g.length), g[i] < g[i + 1]) : Rises g := by
  induction g with
  | nil => trivial
  | cons x xs ih =>
    have hr : Rises xs := ih (fun i hi => by have := h (i + 1) (by simpa using hi); simpa using this)
    refine ⟨fun y hy => ?_, hr⟩
    obtain ⟨k, hk, rfl⟩ := List.getElem_of_mem hy
    have h0 := h 0 (by simp; omega)
    simp only [List.getElem_cons_zero, List.getElem_cons_succ] at h0
    cases k with
    | zero => exact h0
    | succ k =>
      have := rises_le hr 0 (k + 1) (by omega) hk (by omega)
      omega
end Go.Proofs.YtaohkcdfjjiggaaGreat
/-! slices.Sort and slices.Compact of ints, of a slice of the call's own. -/
namespace Go.Proofs.YtaohkcdfjjiggaaGreat
open Go.RowKit
theorem encI_flat (l : List Int) : l.flatMap encI = l.map (Value.int .i64) := by
  induction l with
  | nil => rfl
  | cons x l ih => simp [encI, ih]
theorem Own.block {α : Type} {w : World} {base : Nat} {e : TypeId} {k : Nat} {enc : α → List Value} {v : Value} {xs : List α} (h : Own w base e k enc v xs) :
    (v = .slice none 0 0 ∧ xs = []) ∨ ∃ g cap cur, v = .slice (some ⟨g, 0, none⟩) xs.length cap ∧ base ≤ g ∧ w.heap[g]? = some (.cells cur e (0, 0)) ∧ xs.length ≤ cap ∧ cap ≤ maxLen ∧ cur.size = cap * k ∧ cur.toList.take (xs.length * k) = xs.flatMap enc := by
  rcases h.2 with ⟨h1, h2⟩ | h2
  · exact .inl ⟨h1, List.eq_nil_of_length_eq_zero h2⟩
  · exact .inr h2
/-- The cells of an owned row of ints. -/
theorem Own.holdsI {w : World} {e : TypeId} {g : Nat} {cur : Array Value} {l : List Int} (hh : w.heap[g]? = some (.cells cur e (0, 0))) (ht : cur.toList.take (l.length * 1) = l.flatMap encI) :
    Sort.Holds (Value.int .i64) w g 0 l.toArray := by
  intro j hj
  have hj' : j < l.length := by simpa using hj
  refine ⟨?_, by simp [World.frozen?, hh]⟩
  rw [Nat.zero_add, blk_cell hh j]
  rw [encI_flat, Nat.mul_one] at ht
  have h1 : (cur.toList.take l.length)[j]? = some (.int .i64 l[j]) := by rw [ht]; simp [hj']
  rw [List.getElem?_take_of_lt hj'] at h1
  rw [getElem!_pos _ j hj]
  simpa using h1
theorem putRow_heap {w : World} {g : Nat} {cur : Array Value} {e : TypeId} (hh : w.heap[g]? = some (.cells cur e (0, 0))) (d : Array Int) (n : Nat) (os : Array Obj) :
    (Sort.grow (Sort.putRow (Value.int .i64) (Sort.ahead w n) g 0 d) os).heap[g]? = some (.cells (Sort.putCells (Value.int .i64) 0 d cur) e (0, 0)) := by
  have hlt := lt_of_block hh
  rw [Sort.heap_grow_old _ _ (by simpa using hlt)]
  simp [Sort.putRow, Sort.mapBlock, Array.getElem?_modify, hh, Sort.onCells]
theorem putRow_other {w : World} {g k : Nat} (hk : k < w.heap.size) (hne : k ≠ g) (d : Array Int) (n : Nat) (os : Array Obj) :
    (Sort.grow (Sort.putRow (Value.int .i64) (Sort.ahead w n) g 0 d) os).heap[k]? = w.heap[k]? := by
  rw [Sort.heap_grow_old _ _ (by simpa using hk)]
  simp [Sort.putRow, Sort.mapBlock, Array.getElem?_modify, Ne.symm hne]
theorem putCells_take {cur : Array Value} {d : List Int} (h : d.length ≤ cur.size) : (Sort.putCells (Value.int .i64) 0 d.toArray cur).toList.take d.length = d.map (Value.int .i64) := by
  apply List.ext_getElem?
  intro j
  rw [List.getElem?_take]
  by_cases hj : j < d.length
  · have hc : j < cur.size := by omega
    simp [Sort.putCells, hj, hc]
  · simp [hj]
/-- An owned row over which other ints are laid. -/
theorem Own.relaid {w : World} {base : Nat} {e : TypeId} {g cap : Nat} {cur : Array Value} (hb : base ≤ g) (hh : w.heap[g]? = some (.cells cur e (0, 0))) (hm : cap ≤ maxLen) (hs : cur.size = cap * 1) (d : List Int) (hd : d.length ≤ cap) (m : Nat) (hmd : m ≤ d.length) (n : Nat) (os : Array Obj) :
    Own (Sort.grow (Sort.putRow (Value.int .i64) (Sort.ahead w n) g 0 d.toArray) os) base e 1 encI (.slice (some ⟨g, 0, none⟩) m cap) (d.take m) := by
  have hml : (d.take m).length = m := by simp; omega
  refine ⟨by rw [encI_flat]; simp, .inr ⟨g, cap, _, by rw [hml], hb, putRow_heap hh _ n os, by omega, hm, by simp [Sort.putCells, hs], ?_⟩⟩
  have ht := putCells_take (cur := cur) (d := d) (by omega)
  rw [hml, encI_flat, Nat.mul_one, List.map_take, ← ht, List.take_take, Nat.min_eq_left hmd]
theorem grownBy_putRow {w : World} {g : Nat} (d : Array Int) (n : Nat) (os : Array Obj) : w.grownBy (Sort.grow (Sort.putRow (Value.int .i64) (Sort.ahead w n) g 0 d) os) (some g) :=
  ⟨rfl, rfl, rfl, by simp, fun k hk hne => putRow_other hk (fun e => hne (by rw [e])) d n os⟩
def isort (l : List Int) : List Int := l.mergeSort fun x y => decide (x ≤ y)
theorem isort_len (l : List Int) : (isort l).length = l.length := List.length_mergeSort _
theorem mem_isort {l : List Int} {x : Int} : x ∈ isort l ↔ x ∈ l := List.mem_mergeSort
theorem isort_le (l : List Int) : (isort l).Pairwise (· ≤ ·) := by
  have := List.pairwise_mergeSort (le := fun (x y : Int) => decide (x ≤ y)) (by intro a b c; simp; omega) (by intro a b; simp; omega) l
  exact this.imp (by simp)
theorem isort_perm (l : List Int) : (isort l).Perm l := List.mergeSort_perm _ _
theorem isort_any (l : List Int) (v : Value) (base : Nat) (w : World) (hown : Own w base 3 1 encI v l) (hl : l.length < 4611686018427387904) :
    Calls Tryz.prog 67 #[v] w fun e w' => e = .returned (.tuple #[]) ∧ Own w' base 3 1 encI v (isort l) ∧ w.grownBy w' v.ownBlock := by
  rcases hown.block with ⟨rfl, rfl⟩ | ⟨g, cap, cur, rfl, hb, hh, hle, hm, hs, ht⟩
  · refine (sh_slices_Sort_int_none none 0 w).mono fun e w' ⟨he, hw⟩ => ?_
    subst hw
    exact ⟨he, by rw [show isort [] = [] by simp [isort]]; exact Own.nil _ _ _ _ _, rfl, rfl, rfl, Nat.le_refl _, fun _ _ _ => rfl⟩
  · refine (sh_slices_Sort_int g 0 cap l w (Own.holdsI hh ht) (lt_of_block hh) hl).mono fun e w' ⟨he, n, os, hw⟩ => ?_
    subst hw
    refine ⟨he, ?_, grownBy_putRow _ n os⟩
    have := Own.relaid hb hh hm hs (isort l) (by rw [isort_len]; exact hle) l.length (by rw [isort_len]; exact Nat.le_refl _) n os
    rw [List.take_of_length_le (by rw [isort_len]; exact Nat.le_refl _)] at this
    exact this
end Go.Proofs.YtaohkcdfjjiggaaGreat
/-! Who is guilty, as numbers that rise (the plain law). -/
namespace Go.Proofs.YtaohkcdfjjiggaaGreat
theorem rises_snoc {l : List Int} {x : Int} (h : Rises l) (hx : ∀ y ∈ l, y < x) : Rises (l ++ [x]) := by
  induction l with
  | nil => exact ⟨by simp, trivial⟩
  | cons y l ih =>
    refine ⟨fun z hz => ?_, ih h.2 (fun z hz => hx z (by simp [hz]))⟩
    rcases List.mem_append.1 hz with hz | hz
    · exact h.1 z hz
    · simp only [List.mem_singleton] at hz; subst hz; exact hx y (by simp)
theorem compactUpTo_rises (d : Array Int) (n : Nat) (hs : ∀ i j, i ≤ j → j < n → d[i]! ≤ d[j]!) : ∀ m, m ≤ n → Rises (Lib.compactUpTo d m) ∧ ∀ x, x ∈ Lib.compactUpTo d m ↔ ∃ j, j < m ∧ d[j]! = x
  | 0, _ => ⟨by simp [Lib.compactUpTo, Rises], by simp [Lib.compactUpTo]⟩
  | m + 1, hm => by
    obtain ⟨h1, h2⟩ := compactUpTo_rises d n hs m (by omega)
    rw [Lib.compactUpTo_succ]
    by_cases hk : m = 0 ∨ d[m]! ≠ d[m - 1]!
    · have hkeep : Lib.keeps d m = true := by simpa [Lib.keeps] using hk
      rw [if_pos hkeep]
      refine ⟨rises_snoc h1 (fun y hy => ?_), fun x => ?_⟩
      · obtain ⟨j, hj, rfl⟩ := (h2 y).1 hy
        rcases hk with hk | hk
        · omega
        · have a := hs j (m - 1) (by omega) (by omega)
          have b := hs (m - 1) m (by omega) (by omega)
          omega
      · rw [List.mem_append, List.mem_singleton, h2]
        constructor
        · rintro (⟨j, hj, rfl⟩ | rfl)
          · exact ⟨j, by omega, rfl⟩
          · exact ⟨m, by omega, rfl⟩
        · rintro ⟨j, hj, rfl⟩
          rcases Nat.lt_or_ge j m with h | h
          · exact .inl ⟨j, h, rfl⟩
          · obtain rfl : j = m := by omega
            exact .inr rfl
    · have hkeep : Lib.keeps d m = false := by
        have := hk
        simp only [not_or, Classical.not_not] at this
        exact Lib.keeps_neg (by omega) this.2
      rw [hkeep]
      simp only [Bool.false_eq_true, if_false, List.append_nil]
      refine ⟨h1, fun x => ?_⟩
      rw [h2]
      constructor
      · rintro ⟨j, hj, rfl⟩; exact ⟨j, by omega, rfl⟩
      · rintro ⟨j, hj, rfl⟩
        rcases Nat.lt_or_ge j m with h | h
        · exact ⟨j, h, rfl⟩
        · obtain rfl : j = m := by omega
          simp only [not_or, Classical.not_not] at hk
          exact ⟨j - 1, by omega, hk.2.symm⟩
/-- Sorted, and each once. -/
def setup (l : List Int) : List Int := Lib.compact (isort l)
theorem setup_rises (l : List Int) : Rises (setup l) ∧ ∀ x, x ∈ setup l ↔ x ∈ l := by
  have hp := isort_le l
  have hs : ∀ i j, i ≤ j → j < (isort l).length → (isort l).toArray[i]! ≤ (isort l).toArray[j]! := by
    intro i j hij hj
    rcases Nat.lt_or_ge i j with h | h
    · rw [getElem!_pos _ i (by simp; omega), getElem!_pos _ j (by simpa using hj)]
      have := List.pairwise_iff_getElem.1 hp i j (by omega) hj h
      simpa using this
    · obtain rfl : i = j := by omega
      exact Int.le_refl _
  obtain ⟨h1, h2⟩ := compactUpTo_rises (isort l).toArray (isort l).length hs _ (Nat.le_refl _)
  refine ⟨h1, fun x => (h2 x).trans ?_⟩
  rw [← mem_isort (l := l), List.mem_iff_getElem]
  constructor
  · rintro ⟨j, hj, rfl⟩
    exact ⟨j, hj, by rw [getElem!_pos _ j (by simpa using hj)]; simp⟩
  · rintro ⟨j, hj, rfl⟩
    exact ⟨j, hj, by rw [getElem!_pos _ j (by simpa using hj)]; simp⟩
/-- Those that are found looking back: of the first k. -/
def backs (v : List Lnk) : Nat → List Int
  | 0 => []
  | k + 1 => backs v k ++ (match v[k]? with | some a => if (v.take k).any (fun b => decide (Pair a b)) then [a.frm] else [] | none => [])
theorem mem_backs {v : List Lnk} {f : Int} : ∀ k, k ≤ v.length → (f ∈ backs v k ↔ ∃ i, ∃ h : i < v.length, i < k ∧ (∃ x ∈ v.take i, Pair v[i] x) ∧ v[i].frm = f)
  | 0, _ => by simp [backs]
  | k + 1, hk => by
    have hlt : k < v.length := hk
    rw [backs, List.mem_append, mem_backs k (by omega), List.getElem?_eq_getElem hlt]
    simp only [List.any_eq_true, decide_eq_true_eq]
    constructor
    · rintro (⟨i, h, hi, hx⟩ | h)
      · exact ⟨i, h, by omega, hx⟩
      · by_cases hx : ∃ x ∈ v.take k, Pair v[k] x
        · rw [if_pos hx] at h
          simp only [List.mem_singleton] at h
          exact ⟨k, hlt, by omega, hx, h.symm⟩
        · rw [if_neg hx] at h; cases h
    · rintro ⟨i, h, hi, hx, hf⟩
      rcases Nat.lt_or_ge i k with h' | h'
      · exact .inl ⟨i, h, h', hx, hf⟩
      · obtain rfl : i = k := by omega
        exact .inr (by rw [if_pos hx]; simp [hf])
theorem backs_len (v : List Lnk) : ∀ k, (backs v k).length ≤ k
  | 0 => by simp [backs]
  | k + 1 => by
    have := backs_len v k
    rw [backs, List.length_append]
    cases v[k]? with
    | none => simp; omega
    | some a => simp only; split <;> simp <;> omega
/-- Who is guilty. -/
def guiltyL (v : List Lnk) : List Int := setup (backs v v.length)
theorem guiltyL_is (v : List Lnk) : IsGuilty v (guiltyL v) := by
  obtain ⟨h1, h2⟩ := setup_rises (backs v v.length)
  refine ⟨h1, fun f => (h2 f).trans ?_⟩
  rw [mem_backs _ (Nat.le_refl _), guilt_back]
  constructor
  · rintro ⟨i, h, _, hx⟩; exact ⟨i, h, hx⟩
  · rintro ⟨i, h, hx⟩; exact ⟨i, h, h, hx⟩
theorem guiltyL_len (v : List Lnk) : (guiltyL v).length ≤ v.length := by
  have h1 := backs_len v v.length
  have h2 := Lib.compact_length_le (isort (backs v v.length))
  rw [isort_len] at h2
  unfold guiltyL setup
  omega
theorem guiltyL_eq {v : List Lnk} {g : List Int} (h : IsGuilty v g) : g = guiltyL v := guilty_uniq h (guiltyL_is v)
end Go.Proofs.YtaohkcdfjjiggaaGreat
/-! A range over a map that the loop leaves as it is, and deletion from a map: maps as lists of pairs. -/
namespace Go.Proofs.YtaohkcdfjjiggaaGreat
open Go.RowKit Go.ChangeMaps Go.MapKept
section
variable {κ ν : Type} [DecidableEq κ] {ek : κ → Value} {ev : ν → Value}
/-- A range over block B's map is under way, its iterator in block r; the keys 'seen' have come. -/
def RIs (ek : κ → Value) (ev : ν → Value) (w : World) (B r : Nat) (m : List (κ × ν)) (came : List κ) : Prop :=
  ∃ es clk since seen c0, w.heap[B]? = some (.map es clk) ∧ es.toList.map (fun e => (e.key, e.val)) = m.map (fun p => (ek p.1, ev p.2)) ∧
    (es.toList.map (·.born)).Pairwise (· < ·) ∧ (∀ e ∈ es.toList, e.born < clk) ∧ (m.map (·.1)).Nodup ∧
    w.heap[r]? = some (.mapIter (some B) since seen c0) ∧ (∀ e ∈ es.toList, e.born < since) ∧
    (∀ (i : Nat) (e : MapEntry) (p : κ × ν), es.toList[i]? = some e → m[i]? = some p → seen.contains e.born = decide (p.1 ∈ came)) ∧ since ≤ c0 ∧ since ≤ clk
theorem RIs.map {w : World} {B r : Nat} {m : List (κ × ν)} {came : List κ} (h : RIs ek ev w B r m came) : MapIs ek ev w B m := by
  obtain ⟨es, clk, _, _, _, h1, h2, h3, h4, h5, _⟩ := h
  exact ⟨es, clk, h1, h2, h3, h4, h5⟩
theorem RIs.ne {w : World} {B r : Nat} {m : List (κ × ν)} {came : List κ} (h : RIs ek ev w B r m came) : r ≠ B := by
  obtain ⟨es, clk, since, seen, c0, hb, _, _, _, _, hr, _⟩ := h
  intro e
  rw [e, hb] at hr
  cases hr
theorem RIs.lt {w : World} {B r : Nat} {m : List (κ × ν)} {came : List κ} (h : RIs ek ev w B r m came) : r < w.heap.size := by
  obtain ⟨es, clk, since, seen, c0, hb, _, _, _, _, hr, _⟩ := h
  exact lt_of_block hr
theorem RIs.same {w w' : World} {B r : Nat} {m : List (κ × ν)} {came : List κ} (h : RIs ek ev w B r m came) (h1 : w'.heap[B]? = w.heap[B]?) (h2 : w'.heap[r]? = w.heap[r]?) : RIs ek ev w' B r m came ∧ w'.rangeLeft B r = w.rangeLeft B r := by
  refine ⟨?_, by unfold World.rangeLeft; rw [h1, h2]⟩
  obtain ⟨es, clk, since, seen, c0, hb, a1, a2, a3, a4, hr, rest⟩ := h
  exact ⟨es, clk, since, seen, c0, h1.trans hb, a1, a2, a3, a4, h2.trans hr, rest⟩
theorem RIs.grown {w w' : World} {B r : Nat} {m : List (κ × ν)} {came : List κ} {row : Option Nat} (h : RIs ek ev w B r m came) (hg : w.grownBy w' row) (h1 : some B ≠ row) (h2 : some r ≠ row) : RIs ek ev w' B r m came ∧ w'.rangeLeft B r = w.rangeLeft B r :=
  h.same (hg.block B (MapIs_lt h.map) h1) (hg.block r h.lt h2)
theorem RIs.below {w w' : World} {B r : Nat} {m : List (κ × ν)} {came : List κ} (h : RIs ek ev w B r m came) (hb : Below w.heap.size w w') : RIs ek ev w' B r m came ∧ w'.rangeLeft B r = w.rangeLeft B r :=
  h.same (hb.block B (MapIs_lt h.map)) (hb.block r h.lt)
omit [DecidableEq κ] in
theorem ent_at {es : Array MapEntry} {m : List (κ × ν)} (h : es.toList.map (fun e => (e.key, e.val)) = m.map (fun p => (ek p.1, ev p.2))) {i : Nat} {e : MapEntry} (hi : es.toList[i]? = some e) : ∃ p, m[i]? = some p ∧ e.key = ek p.1 ∧ e.val = ev p.2 := by
  have h1 := congrArg (·[i]?) h
  simp only [List.getElem?_map, hi, Option.map_some] at h1
  cases hp : m[i]? with
  | none => rw [hp] at h1; simp at h1
  | some p =>
    rw [hp] at h1
    simp only [Option.map_some, Option.some.injEq, Prod.mk.injEq] at h1
    exact ⟨p, rfl, h1.1, h1.2⟩
omit [DecidableEq κ] in
theorem ent_of {es : Array MapEntry} {m : List (κ × ν)} (h : es.toList.map (fun e => (e.key, e.val)) = m.map (fun p => (ek p.1, ev p.2))) {i : Nat} {p : κ × ν} (hi : m[i]? = some p) : ∃ e, es.toList[i]? = some e ∧ e.key = ek p.1 ∧ e.val = ev p.2 := by
  have h1 := congrArg (·[i]?) h
  simp only [List.getElem?_map, hi, Option.map_some] at h1
  cases hp : es.toList[i]? with
  | none => rw [hp] at h1; simp at h1
  | some e =>
    rw [hp] at h1
    simp only [Option.map_some, Option.some.injEq, Prod.mk.injEq] at h1
    exact ⟨e, rfl, h1.1, h1.2⟩
theorem nodup_born {l : List MapEntry} (h : (l.map (·.born)).Pairwise (· < ·)) : (l.map (·.born)).Nodup := h.imp (fun h => by omega)
/-- 'range m'. -/
theorem range_run {P : Program} {MT kt et : TypeId} (ht : P.underlying MT = some (.map kt et)) {w : World} {B : Nat} {m : List (κ × ν)} (hM : MapIs ek ev w B m) :
    ∃ w', (Instr.range MT (.map (some B))).run P w = .ok (.pointer (some ⟨w.heap.size, 0, none⟩)) w' ∧ RIs ek ev w' B w.heap.size m [] ∧ Below w.heap.size w w' ∧ w'.heap.size = w.heap.size + 1 := by
  obtain ⟨es, clk, hB, hes, hbn, hbc, hnd⟩ := hM
  have hlt := lt_of_block hB
  refine ⟨_, run_range_map w MT kt et B es clk ht hB, ⟨es, clk, clk, #[], clk, ha_lt hB, hes, hbn, hbc, hnd, ha_at rfl, hbc, fun i e p _ _ => by simp, Nat.le_refl _, Nat.le_refl _⟩, (Below.refl _ w).alloc (Nat.le_refl _) _, by simp⟩
/-- The step. -/
theorem next_run {P : Program} {w : World} {B r : Nat} {m : List (κ × ν)} {came : List κ} (h : RIs ek ev w B r m came) (ty : TypeId) :
    ((∀ p ∈ m, p.1 ∈ came) ∧ (Instr.next (.pointer (some ⟨r, 0, none⟩)) false ty).run P w = .ok (.tuple #[.bool false]) w) ∨
    ∃ x v w', (x, v) ∈ m ∧ x ∉ came ∧ (Instr.next (.pointer (some ⟨r, 0, none⟩)) false ty).run P w = .ok (.tuple #[.bool true, ek x, ev v]) w' ∧ RIs ek ev w' B r m (x :: came) ∧ w'.rangeLeft B r < w.rangeLeft B r ∧
      w.grownBy w' (some r) ∧ w'.heap.size = w.heap.size ∧ (Instr.entry (.pointer (some ⟨r, 0, none⟩))).run P w' = .ok (.tuple #[ek x, ev v]) w' := by
  have hne := h.ne
  obtain ⟨es, clk, since, seen, c0, hb, hes, hbn, hbc, hnd, hr, hold, hseen, hsc, hsk⟩ := h
  have hnb := nodup_born hbn
  rcases run_next_at (P := P) w ty r B since c0 seen es clk hr hb hold hsc with ⟨h0, hrun⟩ | ⟨e, he, w1, hal, hrun⟩
  · refine .inl ⟨fun p hp => ?_, hrun⟩
    obtain ⟨i, hi⟩ := List.mem_iff_getElem?.1 hp
    obtain ⟨e, hei, _⟩ := ent_of hes hi
    have := hseen i e p hei hi
    rw [all_seen es seen h0 e (List.mem_of_getElem? hei)] at this
    simpa using this.symm
  · obtain ⟨hem, hen⟩ := mem_left he
    obtain ⟨i, hi⟩ := List.mem_iff_getElem?.1 hem
    obtain ⟨p, hp, hk, hv⟩ := ent_at hes hi
    have hpc := hseen i e p hi hp
    rw [hen] at hpc
    have hnc : p.1 ∉ came := by simpa using hpc.symm
    have hr1 : w1.heap[r]? = some (.mapIter (some B) since seen c0) := by rcases hal with rfl | rfl <;> exact hr
    have hb1 : w1.heap[B]? = some (.map es clk) := by rcases hal with rfl | rfl <;> exact hb
    have hset := heap_set (o' := .mapIter (some B) since (seen.push e.born) clk) hr1
    have hb' : (setBlock w1 r (.mapIter (some B) since (seen.push e.born) clk)).heap[B]? = some (.map es clk) := (hset.2 B (fun e1 => hne e1.symm)).trans hb1
    refine .inr ⟨p.1, p.2, setBlock w1 r (.mapIter (some B) since (seen.push e.born) clk), List.mem_of_getElem? hp, hnc, by rw [hrun, hk, hv],
      ⟨es, clk, since, seen.push e.born, clk, hb', hes, hbn, hbc, hnd, hset.1, hold, fun j e' p' hj hp' => ?_, hsk, hsk⟩, ?_, ?_, ?_, ?_⟩
    · rw [contains_push, hseen j e' p' hj hp', Bool.eq_iff_iff]
      simp only [Bool.or_eq_true, decide_eq_true_eq, beq_iff_eq, List.mem_cons]
      constructor
      · rintro (h | h)
        · exact .inr h
        · have : e' = e := born_inj hnb (List.mem_of_getElem? hj) hem (by omega)
          subst this
          have hij : j = i := by
            have hl1 := (List.getElem?_eq_some_iff.1 hj).1
            have hl2 := (List.getElem?_eq_some_iff.1 hi).1
            have e1 : (es.toList.map (·.born))[j]? = (es.toList.map (·.born))[i]? := by simp [List.getElem?_map, hj, hi]
            have hl1' : j < (es.toList.map (·.born)).length := by simpa using hl1
            exact (List.getElem?_inj hl1' hnb).1 e1
          subst hij
          rw [hp] at hp'
          cases hp'
          exact .inl rfl
      · rintro (h | h)
        · right
          have hij : j = i := by
            have e1 : (m.map (·.1))[j]? = (m.map (·.1))[i]? := by simp [List.getElem?_map, hp, hp', h]
            have hl : j < (m.map (·.1)).length := by simpa using (List.getElem?_eq_some_iff.1 hp').1
            exact (List.getElem?_inj hl hnd).1 e1
          subst hij
          rw [hi] at hj
          cases hj
          rfl
        · exact .inl h
    · have := left_shrinks es seen e he
      unfold World.rangeLeft
      rw [hb', show (setBlock w1 r (.mapIter (some B) since (seen.push e.born) clk)).heap[r]? = _ from hset.1, hb, hr]
      exact this
    · rcases hal with rfl | rfl <;> exact ⟨rfl, rfl, rfl, by simp [setBlock], fun i _ hi => hset.2 i (fun e1 => hi (by rw [e1]))⟩
    · rcases hal with rfl | rfl <;> simp [setBlock]
    · rw [run_entry_at _ r B since seen es clk e hset.1 hb' hem hnb, hk, hv]
variable {P : Program} {ops : Array Oper} {rest : List Oper} {o : Oper} {a : Act} {Q : Exit → Act → World → Prop}
theorem wp_range (hg : o.guard = none) {mo : Operand} {MT kt et : TypeId} (hop : o.op = Op.range MT mo) (ht : P.underlying MT = some (.map kt et)) {w : World} {B : Nat} (hm : a.eval mo = .map (some B)) {m : List (κ × ν)} (hM : MapIs ek ev w B m) {r : Nat} (hr : w.heap.size = r)
    (hK : ∀ w', RIs ek ev w' B r m [] → Below w.heap.size w w' → w'.heap.size = w.heap.size + 1 → wpList P ops Q rest (a.put o.dst (.pointer (some ⟨r, 0, none⟩))) w') : wpList P ops Q (o :: rest) a w := by
  subst hr
  refine wpList_plain hg fun K' hK' => ?_
  obtain ⟨w', hrun, r1, r2, r3⟩ := range_run ht hM
  unfold Oper.wp
  simp [execOp, hop, hm, hrun, Result.andThen]
  exact hK' _ _ (hK w' r1 r2 r3)
/-- An entry has come. -/
structure Came (ek : κ → Value) (ev : ν → Value) (w w' : World) (B r : Nat) (m : List (κ × ν)) (came : List κ) (x : κ) (v : ν) : Prop where
  mem : (x, v) ∈ m
  fresh : x ∉ came
  ris : RIs ek ev w' B r m (x :: came)
  less : w'.rangeLeft B r < w.rangeLeft B r
  grown : w.grownBy w' (some r)
  size : w'.heap.size = w.heap.size
theorem wp_next (hg : o.guard = none) {it : Operand} (hop : o.op = Op.next it false) {w : World} {B r : Nat} {m : List (κ × ν)} {came : List κ} (hit : a.eval it = .pointer (some ⟨r, 0, none⟩)) (h : RIs ek ev w B r m came)
    (hDone : Hid (∀ p ∈ m, p.1 ∈ came) → wpList P ops Q rest (a.put o.dst (.tuple #[.bool false])) w)
    (hMore : ∀ (x : κ) (v : ν) (w' : World), Came ek ev w w' B r m came x v → (Instr.entry (.pointer (some ⟨r, 0, none⟩))).run P w' = .ok (.tuple #[ek x, ev v]) w' → wpList P ops Q rest (a.put o.dst (.tuple #[.bool true, ek x, ev v])) w') : wpList P ops Q (o :: rest) a w := by
  refine wpList_plain hg fun K' hK' => ?_
  unfold Oper.wp
  rcases next_run (P := P) h o.type with ⟨h0, hrun⟩ | ⟨x, v, w', h1, h2, hrun, h3, h4, h5, h6, h7⟩
  · simp [execOp, hop, hit, hrun, Result.andThen]
    exact hK' _ _ (hDone (Lib.hid h0))
  · simp [execOp, hop, hit, hrun, Result.andThen]
    exact hK' _ _ (hMore x v w' ⟨h1, h2, h3, h4, h5, h6⟩ h7)
end
section
variable {κ ν : Type} [DecidableEq κ] {ek : κ → Value} {ev : ν → Value}
def mdel (m : List (κ × ν)) (x : κ) : List (κ × ν) := m.filter fun p => decide (p.1 ≠ x)
theorem keyIdx_some {ks : List κ} {x : κ} {i j : Nat} (h : keyIdx ks x i = some j) : i ≤ j ∧ ks[j - i]? = some x := keyIdx_ge h
theorem eraseIdx_filter {m : List (κ × ν)} (hnd : (m.map (·.1)).Nodup) {j : Nat} {v : κ × ν} (hj : m[j]? = some v) : m.eraseIdx j = m.filter fun p => decide (p.1 ≠ v.1) := by
  induction m generalizing j with
  | nil => simp at hj
  | cons a m ih =>
    simp only [List.map_cons, List.nodup_cons] at hnd
    cases j with
    | zero =>
      simp only [List.getElem?_cons_zero, Option.some.injEq] at hj
      subst hj
      simp only [List.eraseIdx_cons_zero, List.filter_cons, ne_eq, not_true_eq_false, decide_false, Bool.false_eq_true, if_false]
      refine (List.filter_eq_self.2 fun p hp => ?_).symm
      simp only [decide_eq_true_eq]
      intro e
      exact hnd.1 (e ▸ List.mem_map_of_mem hp)
    | succ j =>
      simp only [List.getElem?_cons_succ] at hj
      have hne : a.1 ≠ v.1 := by
        intro e
        exact hnd.1 (e ▸ List.mem_map_of_mem (List.mem_of_getElem? hj))
      simp only [List.eraseIdx_cons_succ, List.filter_cons, ne_eq, hne, not_false_eq_true, decide_true, if_true]
      rw [ih hnd.2 hj]
theorem delete_run {P : Program} {MT kt et : TypeId} (K : Key P kt ek) (ht : P.underlying MT = some (.map kt et)) {w : World} {B : Nat} {m : List (κ × ν)} (hM : MapIs ek ev w B m) (x : κ) (t2 ty : TypeId) :
    ∃ w', (Builtin.delete_ #[MT, t2] ty #[.map (some B), ek x]).run P w = .ok (.tuple #[]) w' ∧ MapIs ek ev w' B (mdel m x) ∧ w.grownBy w' (some B) ∧ w'.heap.size = w.heap.size := by
  obtain ⟨es, clk, hB, hes, hbn, hbc, hnd⟩ := hM
  have hlt := lt_of_block hB
  have hf := findKey_run K x w (m.map (·.1)) es.toList (entries_key hes)
  have hgo : (getObj B).run P w = .ok (.map es clk) w := by simp [getObj, Sem.run, hB]
  have hset : ∀ o, (setObj B o).run P w = .ok () { w with heap := w.heap.setIfInBounds B o } := by intro o; simp [setObj, Sem.run, hB]
  have hgrow : ∀ o, w.grownBy { w with heap := w.heap.setIfInBounds B o } (some B) := fun o => ⟨rfl, rfl, rfl, by simp, fun k _ hne => by
    have : B ≠ k := fun e => hne (by rw [e])
    simp [Array.getElem?_setIfInBounds_ne this]⟩
  have hat : ∀ o : Obj, ({ w with heap := w.heap.setIfInBounds B o } : World).heap[B]? = some o := fun o => by simp [hlt]
  cases hj : keyIdx (m.map (·.1)) x 0 with
  | none =>
    rw [hj] at hf
    have hx := keyIdx_none hj
    have hmd : mdel m x = m := List.filter_eq_self.2 fun p hp => by
      simp only [decide_eq_true_eq]
      intro e
      exact hx (e ▸ List.mem_map_of_mem hp)
    refine ⟨{ w with heap := w.heap.setIfInBounds B (.map es clk) }, ?_, ⟨es, clk, hat _, by rw [hmd]; exact hes, hbn, hbc, by rw [hmd]; exact hnd⟩, hgrow _, by simp⟩
    simp [Builtin.delete_, run_underlying ht, hgo, K.chk, hf, hset, Result.andThen]
  | some j =>
    rw [hj] at hf
    obtain ⟨_, hjk⟩ := keyIdx_some hj
    simp only [Nat.sub_zero, List.getElem?_map, Option.map_eq_some_iff] at hjk
    obtain ⟨p, hp, hpx⟩ := hjk
    obtain ⟨e, he, _, _⟩ := ent_of hes hp
    have hjl : j < es.size := by have := (List.getElem?_eq_some_iff.1 he).1; simpa using this
    have hmd : mdel m x = m.eraseIdx j := by rw [eraseIdx_filter hnd hp, hpx]; rfl
    have hsub : (es.eraseIdxIfInBounds j).toList = es.toList.eraseIdx j := by
      unfold Array.eraseIdxIfInBounds
      rw [dif_pos hjl]
      simp
    have he' : es[j]? = some e := by simpa using he
    refine ⟨{ w with heap := w.heap.setIfInBounds B (.map (es.eraseIdxIfInBounds j) clk) }, ?_, ⟨_, clk, hat _, ?_, ?_, ?_, ?_⟩, hgrow _, by simp⟩
    · simp [Builtin.delete_, run_underlying ht, hgo, K.chk, hf, he', hset, Result.andThen]
    · rw [hsub, hmd, map_eraseIdx, map_eraseIdx, hes]
    · rw [hsub, map_eraseIdx]
      exact hbn.sublist (List.eraseIdx_sublist _ _)
    · intro x hx
      rw [hsub] at hx
      exact hbc x ((List.eraseIdx_sublist _ _).subset hx)
    · rw [hmd, map_eraseIdx]
      exact hnd.sublist (List.eraseIdx_sublist _ _)
variable {P : Program} {ops : Array Oper} {rest : List Oper} {o : Oper} {a : Act} {Q : Exit → Act → World → Prop}
theorem wp_delete (hg : o.guard = none) {mo xo : Operand} {MT kt et t2 : TypeId} (hop : o.op = Op.call { callee := Callee.builtin Builtin.delete, args := #[mo, xo], argTypes := #[MT, t2] }) (K : Key P kt ek) (ht : P.underlying MT = some (.map kt et)) {w : World} {B : Nat}
    (hm : a.eval mo = .map (some B)) {x : κ} (hx : a.eval xo = ek x) {m : List (κ × ν)} (hM : MapIs ek ev w B m)
    (hK : ∀ w', MapIs ek ev w' B (mdel m x) → w.grownBy w' (some B) → w'.heap.size = w.heap.size → wpList P ops Q rest (a.put o.dst (.tuple #[])) w') : wpList P ops Q (o :: rest) a w := by
  refine wpList_plain hg fun K' hK' => ?_
  obtain ⟨w', hrun, r1, r2, r3⟩ := delete_run (t2 := t2) (ty := o.type) K ht hM x
  unfold Oper.wp
  simp [execOp, hop, resolve, invoke, builtin, hm, hx, hrun, Result.andThen]
  exact hK' _ _ (hK w' r1 r2 r3)
end
end Go.Proofs.YtaohkcdfjjiggaaGreat
/-! Votes that count (the plain law). -/
namespace Go.Proofs.YtaohkcdfjjiggaaGreat
/-- f has two votes of slot s, of different heads. -/
def Dbl (l : List Vote) (s f : Int) : Prop := ∃ x ∈ l, ∃ y ∈ l, x.frm = f ∧ y.frm = f ∧ x.slot = s ∧ y.slot = s ∧ x.head ≠ y.head
instance instDbl (l : List Vote) (s f : Int) : Decidable (Dbl l s f) := by unfold Dbl; exact inferInstance
theorem dbl_mem {l : List Vote} {s f : Int} (h : Dbl l s f) : ∃ x ∈ l, x.frm = f ∧ x.slot = s := by
  obtain ⟨x, hx, _, _, h1, _, h2, _⟩ := h
  exact ⟨x, hx, h1, h2⟩
theorem dbl_mono {l m : List Vote} (h : ∀ x ∈ l, x ∈ m) {s f : Int} (hd : Dbl l s f) : Dbl m s f := by
  obtain ⟨x, hx, y, hy, r⟩ := hd
  exact ⟨x, h x hx, y, h y hy, r⟩
theorem dbl_congr {l m : List Vote} (h : ∀ x, x ∈ l ↔ x ∈ m) {s f : Int} : Dbl l s f ↔ Dbl m s f := ⟨dbl_mono fun x hx => (h x).1 hx, dbl_mono fun x hx => (h x).2 hx⟩
/-- Who are not double have one head a slot. -/
theorem dbl_one {l : List Vote} {x y : Vote} (hx : x ∈ l) (hy : y ∈ l) (hf : x.frm = y.frm) (hs : x.slot = y.slot) (h : ¬ Dbl l x.slot x.frm) : x = y := by
  have : x.head = y.head := Classical.byContradiction fun hne => h ⟨x, hx, y, hy, rfl, hf.symm, rfl, hs.symm, hne⟩
  obtain ⟨a, b, c⟩ := x
  obtain ⟨a', b', c'⟩ := y
  simp only at hf hs this
  subst hf hs this
  rfl
def RisesV (o : List Vote) : Prop := Rises (o.map (·.frm))
theorem risesV_uniq : ∀ {a b : List Vote}, RisesV a → RisesV b → (∀ v, v ∈ a ↔ v ∈ b) → a = b
  | [], [], _, _, _ => rfl
  | [], y :: ys, _, _, e => by have := (e y).2 (by simp); simp at this
  | x :: xs, [], _, _, e => by have := (e x).1 (by simp); simp at this
  | x :: xs, y :: ys, ha, hb, e => by
    have ha1 : ∀ z ∈ xs, x.frm < z.frm := fun z hz => ha.1 _ (List.mem_map_of_mem hz)
    have hb1 : ∀ z ∈ ys, y.frm < z.frm := fun z hz => hb.1 _ (List.mem_map_of_mem hz)
    have hxy : x = y := by
      have h1 := (e x).1 (by simp)
      have h2 := (e y).2 (by simp)
      simp only [List.mem_cons] at h1 h2
      rcases h1 with h1 | h1
      · exact h1
      · rcases h2 with h2 | h2
        · exact h2.symm
        · have := hb1 x h1; have := ha1 y h2; omega
    subst hxy
    congr 1
    refine risesV_uniq ha.2 hb.2 (fun v => ?_)
    constructor
    · intro hv
      have := (e v).1 (by simp [hv])
      simp only [List.mem_cons] at this
      rcases this with h | h
      · subst h; have := ha1 v hv; omega
      · exact h
    · intro hv
      have := (e v).2 (by simp [hv])
      simp only [List.mem_cons] at this
      rcases this with h | h
      · subst h; have := hb1 v hv; omega
      · exact h
theorem risesV_lt {o : List Vote} (h : RisesV o) (i j : Nat) (hi : i < o.length) (hj : j < o.length) (hij : i < j) : o[i].frm < o[j].frm := by
  have := rises_le h i j (by simpa using hi) (by simpa using hj) hij
  simpa using this
theorem risesV_inj {o : List Vote} (h : RisesV o) {x y : Vote} (hx : x ∈ o) (hy : y ∈ o) (hf : x.frm = y.frm) : x = y := by
  obtain ⟨i, hi, rfl⟩ := List.getElem_of_mem hx
  obtain ⟨j, hj, rfl⟩ := List.getElem_of_mem hy
  rcases Nat.lt_trichotomy i j with h1 | h1 | h1
  · have := risesV_lt h i j hi hj h1; omega
  · subst h1; rfl
  · have := risesV_lt h j i hj hi h1; omega
/-- The votes of slot s that count. -/
def InOf (l : List Vote) (s : Int) (v : Vote) : Prop := v ∈ l ∧ v.slot = s ∧ ¬ Dbl l s v.frm
/-- The last votes up to slot u that count. -/
def InLast (l : List Vote) (u : Int) (v : Vote) : Prop :=
  v ∈ l ∧ v.slot ≤ u ∧ (∀ y ∈ l, y.frm = v.frm → y.slot ≤ u → y.slot ≤ v.slot) ∧ ∀ y ∈ l, y.frm = v.frm → y.slot ≤ u → ¬ Dbl l y.slot v.frm
def IsOf (l : List Vote) (s : Int) (o : List Vote) : Prop := RisesV o ∧ ∀ v, v ∈ o ↔ InOf l s v
def IsLast (l : List Vote) (u : Int) (o : List Vote) : Prop := RisesV o ∧ ∀ v, v ∈ o ↔ InLast l u v
def IsDbl (l : List Vote) (s : Int) (d : List Int) : Prop := Rises d ∧ ∀ f, f ∈ d ↔ Dbl l s f
def insV (v : Vote) : List Vote → List Vote
  | [] => [v]
  | x :: xs => if v.frm < x.frm then v :: x :: xs else if v.frm = x.frm then x :: xs else x :: insV v xs
theorem insV_is (v : Vote) : ∀ o : List Vote, RisesV o → (∀ x ∈ o, x.frm = v.frm → x = v) → RisesV (insV v o) ∧ ∀ z, z ∈ insV v o ↔ z = v ∨ z ∈ o
  | [], _, _ => ⟨⟨by simp, trivial⟩, by simp [insV]⟩
  | x :: xs, h, hu => by
    have hx1 : ∀ z ∈ xs, x.frm < z.frm := fun z hz => h.1 _ (List.mem_map_of_mem hz)
    unfold insV
    by_cases h1 : v.frm < x.frm
    · rw [if_pos h1]
      refine ⟨⟨fun y hy => ?_, h⟩, by simp⟩
      simp only [List.map_cons, List.mem_cons] at hy
      rcases hy with rfl | hy
      · exact h1
      · obtain ⟨z, hz, rfl⟩ := List.mem_map.1 hy
        have := hx1 z hz
        show v.frm < z.frm
        omega
    · rw [if_neg h1]
      by_cases h2 : v.frm = x.frm
      · rw [if_pos h2]
        have := hu x (by simp) h2.symm
        subst this
        exact ⟨h, fun z => by simp⟩
      · rw [if_neg h2]
        obtain ⟨i1, i2⟩ := insV_is v xs h.2 (fun y hy => hu y (by simp [hy]))
        refine ⟨⟨fun y hy => ?_, i1⟩, fun z => ?_⟩
        · obtain ⟨z, hz, rfl⟩ := List.mem_map.1 hy
          show x.frm < z.frm
          rcases (i2 z).1 hz with rfl | hz
          · omega
          · exact hx1 z hz
        · rw [List.mem_cons, i2, List.mem_cons]
          constructor
          · rintro (h | h | h)
            · exact .inr (.inl h)
            · exact .inl h
            · exact .inr (.inr h)
          · rintro (h | h | h)
            · exact .inr (.inl h)
            · exact .inl h
            · exact .inr (.inr h)
def setV (l : List Vote) : List Vote := l.foldr insV []
theorem setV_is : ∀ l : List Vote, (∀ x ∈ l, ∀ y ∈ l, x.frm = y.frm → x = y) → RisesV (setV l) ∧ ∀ z, z ∈ setV l ↔ z ∈ l
  | [], _ => ⟨trivial, by simp [setV]⟩
  | v :: l, h => by
    obtain ⟨i1, i2⟩ := setV_is l (fun x hx y hy => h x (by simp [hx]) y (by simp [hy]))
    obtain ⟨j1, j2⟩ := insV_is v (setV l) i1 (fun x hx he => h x (by simp [(i2 x).1 hx]) v (by simp) he)
    exact ⟨j1, fun z => (j2 z).trans (by rw [i2, List.mem_cons])⟩
instance instInOf (l : List Vote) (s : Int) (v : Vote) : Decidable (InOf l s v) := by unfold InOf; exact inferInstance
instance instInLast (l : List Vote) (u : Int) (v : Vote) : Decidable (InLast l u v) := by unfold InLast; exact inferInstance
def ofL (l : List Vote) (s : Int) : List Vote := setV (l.filter fun v => decide (InOf l s v))
def lastL (l : List Vote) (u : Int) : List Vote := setV (l.filter fun v => decide (InLast l u v))
def dblL (l : List Vote) (s : Int) : List Int := setup ((l.filter fun v => decide (v.slot = s ∧ Dbl l s v.frm)).map (·.frm))
theorem inOf_uniq {l : List Vote} {s : Int} {x y : Vote} (hx : InOf l s x) (hy : InOf l s y) (hf : x.frm = y.frm) : x = y :=
  dbl_one hx.1 hy.1 hf (hx.2.1.trans hy.2.1.symm) (by rw [hx.2.1]; exact hx.2.2)
theorem inLast_uniq {l : List Vote} {u : Int} {x y : Vote} (hx : InLast l u x) (hy : InLast l u y) (hf : x.frm = y.frm) : x = y := by
  have h1 := hx.2.2.1 y hy.1 hf.symm hy.2.1
  have h2 := hy.2.2.1 x hx.1 hf hx.2.1
  exact dbl_one hx.1 hy.1 hf (by omega) (hx.2.2.2 x hx.1 rfl hx.2.1)
theorem ofL_is (l : List Vote) (s : Int) : IsOf l s (ofL l s) := by
  obtain ⟨h1, h2⟩ := setV_is (l.filter fun v => decide (InOf l s v)) (fun x hx y hy hf => inOf_uniq (s := s) (l := l) (by simpa using (List.mem_filter.1 hx).2) (by simpa using (List.mem_filter.1 hy).2) hf)
  refine ⟨h1, fun v => (h2 v).trans ?_⟩
  rw [List.mem_filter, decide_eq_true_iff]
  exact ⟨fun h => h.2, fun h => ⟨h.1, h⟩⟩
theorem lastL_is (l : List Vote) (u : Int) : IsLast l u (lastL l u) := by
  obtain ⟨h1, h2⟩ := setV_is (l.filter fun v => decide (InLast l u v)) (fun x hx y hy hf => inLast_uniq (u := u) (l := l) (by simpa using (List.mem_filter.1 hx).2) (by simpa using (List.mem_filter.1 hy).2) hf)
  refine ⟨h1, fun v => (h2 v).trans ?_⟩
  rw [List.mem_filter, decide_eq_true_iff]
  exact ⟨fun h => h.2, fun h => ⟨h.1, h⟩⟩
theorem dblL_is (l : List Vote) (s : Int) : IsDbl l s (dblL l s) := by
  obtain ⟨h1, h2⟩ := setup_rises ((l.filter fun v => decide (v.slot = s ∧ Dbl l s v.frm)).map (·.frm))
  refine ⟨h1, fun f => (h2 f).trans ?_⟩
  simp only [List.mem_map, List.mem_filter, decide_eq_true_eq]
  constructor
  · rintro ⟨v, ⟨_, _, h⟩, rfl⟩; exact h
  · intro h
    obtain ⟨x, hx, hf, hs⟩ := dbl_mem h
    exact ⟨x, ⟨hx, hs, by rw [hf]; exact h⟩, hf⟩
theorem ofL_eq {l : List Vote} {s : Int} {o : List Vote} (h : IsOf l s o) : o = ofL l s := risesV_uniq h.1 (ofL_is l s).1 (fun v => (h.2 v).trans ((ofL_is l s).2 v).symm)
theorem lastL_eq {l : List Vote} {s : Int} {o : List Vote} (h : IsLast l s o) : o = lastL l s := risesV_uniq h.1 (lastL_is l s).1 (fun v => (h.2 v).trans ((lastL_is l s).2 v).symm)
theorem dblL_eq {l : List Vote} {s : Int} {o : List Int} (h : IsDbl l s o) : o = dblL l s := rises_uniq h.1 (dblL_is l s).1 (fun v => (h.2 v).trans ((dblL_is l s).2 v).symm)
theorem insV_len (v : Vote) : ∀ o : List Vote, (insV v o).length ≤ o.length + 1
  | [] => by simp [insV]
  | x :: xs => by
    unfold insV
    have := insV_len v xs
    split
    · simp
    · split
      · simp
      · simp; omega
theorem setV_len : ∀ l : List Vote, (setV l).length ≤ l.length
  | [] => by simp [setV]
  | v :: l => by
    have h1 := setV_len l
    have h2 := insV_len v (setV l)
    show (insV v (setV l)).length ≤ _
    simp only [List.length_cons]
    omega
theorem ofL_len (l : List Vote) (s : Int) : (ofL l s).length ≤ l.length := Nat.le_trans (setV_len _) (List.length_filter_le _ _)
theorem lastL_len (l : List Vote) (s : Int) : (lastL l s).length ≤ l.length := Nat.le_trans (setV_len _) (List.length_filter_le _ _)
theorem setup_len (l : List Int) : (setup l).length ≤ l.length := by
  have := Lib.compact_length_le (isort l)
  rw [isort_len] at this
  exact this
theorem dblL_len (l : List Vote) (s : Int) : (dblL l s).length ≤ l.length := by
  refine Nat.le_trans (setup_len _) ?_
  rw [List.length_map]
  exact List.length_filter_le _ _
/-- Sorting numbers that differ. -/
theorem isort_rises {l : List Int} (h : l.Nodup) : Rises (isort l) := by
  have hp := isort_le l
  have hn : (isort l).Nodup := (isort_perm l).nodup_iff.2 h
  refine rises_of fun i hi => ?_
  have h1 := List.pairwise_iff_getElem.1 hp i (i + 1) (by omega) hi (by omega)
  have h2 := List.pairwise_iff_getElem.1 hn i (i + 1) (by omega) hi (by omega)
  omega
end Go.Proofs.YtaohkcdfjjiggaaGreat
/-! What each voted for, and who is double: a book of votes, in plain words. -/
namespace Go.Proofs.YtaohkcdfjjiggaaGreat
open Go.RowKit
/-- Who votes, and in which slot. -/
structure Dty where
  frm : Int
  slot : Int
  deriving DecidableEq
def dtyv (d : Dty) : Value := .agg #[.int .i64 d.frm, .int .i64 d.slot]
theorem eqlIn_dty (n : Nat) (x y : Dty) (w : World) : (Op.equalIn (n + 3) 77 (dtyv x) (dtyv y)).run Tryz.prog w = .ok (decide (x = y)) w := by
  have u := Tryz.underlying77
  have u3 := Tryz.underlying3
  have p := fun cs off v h w => part_int (P := Tryz.prog) u3 cs off v h w
  unfold dtyv
  rw [run_equalIn_struct _ _ _ _ _ (by kernel_rfl) (by kernel_rfl)]
  simp only [Program.fieldsOf, u]
  obtain ⟨x1, x2⟩ := x
  obtain ⟨y1, y2⟩ := y
  by_cases h1 : x1 = y1 <;> by_cases h2 : x2 = y2 <;> simp [Op.eqFields, p, run_equalIn_int _ _ _ _ _ _ _ u3, h1, h2]
theorem eql_dtyw (x y : Dty) (w : World) : (binOp .eql 77 (.agg #[.int .i64 x.frm, .int .i64 x.slot]) (.agg #[.int .i64 y.frm, .int .i64 y.slot])).run Tryz.prog w = .ok (.bool (decide (x = y))) w := by
  have h := eqlIn_dty 9997 x y w
  unfold dtyv at h
  rw [run_eql_struct, h]
  rfl
theorem KeyD : Key Tryz.prog 77 dtyv where
  chk := fun b x w => by
    have u := Tryz.underlying77
    have u3 := Tryz.underlying3
    have p := fun cs off v h w => part_int (P := Tryz.prog) u3 cs off v h w
    have c := fun b n x w => check_int (P := Tryz.prog) u3 b n x w
    unfold dtyv Instr.checkKey
    simp only [Sem.run_bind, run_underlying u, Result.andThen_ok]
    simp [List.forIn_cons, p, c]
  eq := fun x y w => eqlIn_dty 9997 x y w
  now := ⟨_, Tryz.underlying77, fun x y => .inl rfl⟩
  bits := fun x => by simp [Instr.sameBits, dtyv]
section
variable {κ ν : Type} [DecidableEq κ]
theorem mget_mput (m : List (κ × ν)) (x y : κ) (v : ν) : mget (mput m x v) y = if x = y then some v else mget m y := by
  unfold mput
  by_cases h : (mget m x).isSome
  · rw [if_pos h]
    unfold mget at h ⊢
    rw [List.find?_map]
    have hq : ((fun p : κ × ν => decide (p.1 = y)) ∘ fun p => if p.1 = x then (p.1, v) else p) = fun p => decide (p.1 = y) := by
      funext p
      simp only [Function.comp]
      split <;> rfl
    rw [hq]
    by_cases hxy : x = y
    · subst hxy
      rw [Option.isSome_map] at h
      obtain ⟨p, hp⟩ := Option.isSome_iff_exists.1 h
      have hpx := List.find?_some hp
      simp only [decide_eq_true_eq] at hpx
      simp [hp, hpx]
    · cases hf : m.find? (fun p => decide (p.1 = y)) with
      | none => simp [hxy]
      | some p =>
        have hpy := List.find?_some hf
        simp only [decide_eq_true_eq] at hpy
        have : ¬ p.1 = x := fun e => hxy (e.symm.trans hpy)
        simp [hxy, this]
  · rw [if_neg h]
    have hn : mget m x = none := by simpa using h
    unfold mget at hn ⊢
    rw [List.find?_append]
    by_cases hxy : x = y
    · subst hxy
      rw [Option.map_eq_none_iff] at hn
      simp [hn]
    · simp only [hxy, if_false]
      cases hf : m.find? (fun p => decide (p.1 = y)) with
      | none => simp [hxy]
      | some q => simp
theorem mgot_mem {m : List (κ × ν)} {x : κ} {v : ν} (h : mget m x = some v) : (x, v) ∈ m := by
  unfold mget at h
  obtain ⟨q, hq, rfl⟩ := Option.map_eq_some_iff.1 h
  have h1 := List.find?_some hq
  have h2 := List.mem_of_find?_eq_some hq
  simp only [decide_eq_true_eq] at h1
  subst h1
  exact h2
theorem mem_mget {m : List (κ × ν)} (hn : (m.map (·.1)).Nodup) {x : κ} {v : ν} (h : (x, v) ∈ m) : mget m x = some v := by
  induction m with
  | nil => cases h
  | cons p m ih =>
    simp only [List.map_cons, List.nodup_cons] at hn
    unfold mget
    rw [List.find?_cons]
    rcases List.mem_cons.1 h with rfl | h
    · simp
    · have hne : p.1 ≠ x := fun e => hn.1 (e ▸ List.mem_map_of_mem (f := (·.1)) h)
      simp only [hne, decide_false]
      exact ih hn.2 h
theorem mget_mdel (m : List (κ × ν)) (x y : κ) : mget (mdel m x) y = if x = y then none else mget m y := by
  unfold mdel mget
  induction m with
  | nil => simp
  | cons p m ih =>
    by_cases hp : p.1 = x
    · have e1 : decide (p.1 ≠ x) = false := by simp [hp]
      rw [List.filter_cons, e1]
      simp only [Bool.false_eq_true, if_false, ih]
      by_cases hxy : x = y
      · simp [hxy]
      · have : decide (p.1 = y) = false := by simp only [decide_eq_false_iff_not]; intro e; exact hxy (hp.symm.trans e)
        simp only [hxy, if_false, List.find?_cons, this]
    · have e1 : decide (p.1 ≠ x) = true := by simp [hp]
      rw [List.filter_cons, e1]
      simp only [if_true, List.find?_cons]
      by_cases hpy : p.1 = y
      · have hxy : ¬ x = y := fun e => hp (hpy.trans e.symm)
        simp [hpy, hxy]
      · simp only [hpy, decide_false]
        exact ih
end
def dty (v : Vote) : Dty := ⟨v.frm, v.slot⟩
/-- The book of votes: m the heads, b who is double. -/
structure Book (l : List Vote) (m : List (Dty × ID)) (b : List (Dty × Bool)) : Prop where
  there : ∀ d id, mget m d = some id → ⟨d.frm, d.slot, id⟩ ∈ l
  all : ∀ v ∈ l, (mget m (dty v)).isSome = true
  bad : ∀ d, (mget b d).isSome = true ↔ Dbl l d.slot d.frm
  yes : ∀ d x, mget b d = some x → x = true
theorem book_nil : Book [] [] [] := ⟨by simp [mget], by simp, by simp [mget, Dbl], by simp [mget]⟩
theorem dbl_snoc {l : List Vote} {v : Vote} {s f : Int} : Dbl (l ++ [v]) s f ↔ Dbl l s f ∨ (v.frm = f ∧ v.slot = s ∧ ∃ y ∈ l, y.frm = f ∧ y.slot = s ∧ y.head ≠ v.head) := by
  constructor
  · rintro ⟨x, hx, y, hy, h1, h2, h3, h4, h5⟩
    rw [List.mem_append, List.mem_singleton] at hx hy
    rcases hx with hx | rfl
    · rcases hy with hy | rfl
      · exact .inl ⟨x, hx, y, hy, h1, h2, h3, h4, h5⟩
      · exact .inr ⟨h2, h4, x, hx, h1, h3, h5⟩
    · rcases hy with hy | rfl
      · exact .inr ⟨h1, h3, y, hy, h2, h4, fun e => h5 e.symm⟩
      · exact absurd rfl h5
  · rintro (h | ⟨h1, h2, y, hy, h3, h4, h5⟩)
    · exact dbl_mono (fun x hx => by simp [hx]) h
    · exact ⟨y, by simp [hy], v, by simp, h3, h1, h4, h2, h5⟩
theorem book_heads {l : List Vote} {m : List (Dty × ID)} {b : List (Dty × Bool)} (h : Book l m b) (v : Vote) :
    (∀ d id, mget (mput m (dty v) v.head) d = some id → ⟨d.frm, d.slot, id⟩ ∈ l ++ [v]) ∧ ∀ x ∈ l ++ [v], (mget (mput m (dty v) v.head) (dty x)).isSome = true := by
  constructor
  · intro d id hd
    rw [mget_mput] at hd
    by_cases he : dty v = d
    · rw [if_pos he] at hd
      cases hd
      subst he
      simp [dty]
    · rw [if_neg he] at hd
      exact List.mem_append_left _ (h.there d id hd)
  · intro x hx
    rw [mget_mput]
    split
    · rfl
    · rename_i hne
      rw [List.mem_append, List.mem_singleton] at hx
      rcases hx with hx | rfl
      · exact h.all x hx
      · exact absurd rfl hne
theorem book_same {l : List Vote} {m : List (Dty × ID)} {b : List (Dty × Bool)} (h : Book l m b) (v : Vote) (hw : mget m (dty v) = none ∨ mget m (dty v) = some v.head) : Book (l ++ [v]) (mput m (dty v) v.head) b := by
  obtain ⟨h1, h2⟩ := book_heads h v
  refine ⟨h1, h2, fun d => ?_, h.yes⟩
  rw [h.bad, dbl_snoc]
  constructor
  · exact .inl
  · rintro (h' | ⟨e1, e2, y, hy, e3, e4, e5⟩)
    · exact h'
    · have hd : dty y = dty v := by unfold dty; rw [e3, e4, ← e1, ← e2]
      have hall := h.all y hy
      rw [hd] at hall
      rcases hw with hw | hw
      · rw [hw] at hall; cases hall
      · have := h.there _ _ hw
        refine ⟨y, hy, _, this, e3, ?_, e4, ?_, e5⟩
        · exact e1
        · exact e2
theorem book_diff {l : List Vote} {m : List (Dty × ID)} {b : List (Dty × Bool)} (h : Book l m b) (v : Vote) {id : ID} (hw : mget m (dty v) = some id) (hne : id ≠ v.head) : Book (l ++ [v]) (mput m (dty v) v.head) (mput b (dty v) true) := by
  obtain ⟨h1, h2⟩ := book_heads h v
  refine ⟨h1, h2, fun d => ?_, fun d x hx => ?_⟩
  · rw [mget_mput, dbl_snoc]
    by_cases he : dty v = d
    · rw [if_pos he]
      subst he
      simp only [Option.isSome_some, true_iff]
      exact .inr ⟨rfl, rfl, _, h.there _ _ hw, rfl, rfl, hne⟩
    · rw [if_neg he, h.bad]
      constructor
      · exact .inl
      · rintro (h' | ⟨e1, e2, _⟩)
        · exact h'
        · exact absurd (by unfold dty; rw [e1, e2]) he
  · rw [mget_mput] at hx
    by_cases he : dty v = d
    · rw [if_pos he] at hx; cases hx; rfl
    · rw [if_neg he] at hx; exact h.yes d x hx
end Go.Proofs.YtaohkcdfjjiggaaGreat
/-! The walk of votes.of. -/
namespace Go.Proofs.YtaohkcdfjjiggaaGreat
open Go.RowKit
theorem mput_len {κ ν : Type} [DecidableEq κ] (m : List (κ × ν)) (x : κ) (v : ν) : (mput m x v).length ≤ m.length + 1 := by
  unfold mput
  split
  · simp
  · simp
def BookPost (l : List Vote) (w : World) (e : Ending) (w' : World) : Prop :=
  ∃ (m : List (Dty × ID)) (b : List (Dty × Bool)) (M1 M2 : Nat), e = .returned (.agg #[.map (some M1), .map (some M2)]) ∧ w.heap.size ≤ M1 ∧ w.heap.size ≤ M2 ∧ MapIs dtyv idv w' M1 m ∧ MapIs dtyv Value.bool w' M2 b ∧ Book l m b ∧ m.length ≤ l.length ∧ b.length ≤ l.length ∧ Below w.heap.size w w'
set_option maxRecDepth 100000 in
set_option maxHeartbeats 2000000 in
theorem book_any (l : List Vote) (A : Option Addr) (c : Nat) (w : World) (hr : Rd 4 encVote w A l) :
    Calls Tryz.prog 52 #[.slice A l.length c] w (BookPost l w) := by
  have hm := hr.1
  have hmm := @run_makeMap Tryz.prog
  go_enter Tryz.func52, Tryz.ntmps52
  go_wp2_with fail
  go_loopw [5, 6, 7, 8, 14] (fun u5 u6 u7 u8 i wr => ∃ (k : Nat) (m : List (Dty × ID)) (b : List (Dty × Bool)), k ≤ l.length ∧ i = .int .i64 k ∧ MapIs dtyv idv wr (w.heap.size + 1) m ∧ MapIs dtyv Value.bool wr (w.heap.size + 1 + 1) b ∧ Hid (Book (l.take k) m b) ∧ m.length ≤ k ∧ b.length ≤ k ∧
    wr.heap[w.heap.size]? = some (.cells #[.map none, .map none] 74 (0, 0)) ∧ wr.heap[w.heap.size + 1 + 1 + 1]? = some (.cells #[.map (some (w.heap.size + 1)), .map (some (w.heap.size + 1 + 1))] 74 (0, 0)) ∧ Below w.heap.size w wr) (fun _ _ _ _ i _ => l.length - (intOf i).toNat)
  case atStart =>
    exact ⟨0, [], [], Nat.zero_le _, rfl, MapIs_new _ _ (ha_lt (ha_lt (ha_at (by simp)))), MapIs_new _ _ (ha_lt (ha_at (by simp))), Lib.hid book_nil, Nat.le_refl _, Nat.le_refl _, ha_lt (ha_lt (ha_lt (ha_at rfl))), ha_at (by simp), ((((Below.refl _ w).alloc (Nat.le_refl _) _).alloc (by simp) _).alloc (by simp; omega) _).alloc (by simp; omega) _⟩
  case round =>
    obtain ⟨k, m, b, hk, rfl, hM, hN, hbk, hml, hbl, hR, hC, hB⟩ := hrel
    by_cases hlt : k < l.length
    · obtain ⟨b', o, rfl, hbo, d0, d1, d2, d3⟩ := (hr.below hB).atVote hlt
      have htk := (List.take_succ_eq_append_getElem hlt)
      obtain ⟨v, hv⟩ : ∃ v, l[k] = v := ⟨_, rfl⟩
      rw [hv] at d0 d1 d2 d3 htk
      have hsame := Lib.hid (fun h => book_same hbk.out v h)
      have hdiff := Lib.hid (fun id h1 h2 => book_diff (id := id) hbk.out v h1 h2)
      have htk' := Lib.hid htk
      clear hv htk hbk
      obtain ⟨c0, c1, _, _⟩ := blk2 hC
      have hW : ∃ W, (wr.alloc (.cells #[.int .i64 v.frm, .int .i64 v.slot, .int .u64 v.head.hi, .int .u64 v.head.lo] 42)).alloc (.cells #[.int .i64 v.frm, .int .i64 v.slot] 77) = W := ⟨_, rfl⟩
      obtain ⟨W, hW⟩ := hW
      have hBW : Below wr.heap.size wr W := by subst hW; exact ((Below.refl _ wr).alloc (Nat.le_refl _) _).alloc (by simp) _
      have x0 : W.heap[wr.heap.size]? = some (.cells #[.int .i64 v.frm, .int .i64 v.slot, .int .u64 v.head.hi, .int .u64 v.head.lo] 42 (0, 0)) := by subst hW; exact ha_lt (ha_at rfl)
      have x1 : W.heap[wr.heap.size + 1]? = some (.cells #[.int .i64 v.frm, .int .i64 v.slot] 77 (0, 0)) := by subst hW; exact ha_at (by simp)
      have hMW := MapIs_below hM hBW
      have hNW := MapIs_below hN hBW
      have hBw := below_call hB hB.size hBW
      have hC1 := bl_own hBW hC
      have hR1 := bl_own hBW hR
      obtain ⟨e0, e1, _, _⟩ := blk2 hC1
      obtain ⟨y0, y1, y2, y3⟩ := blk4 x0
      obtain ⟨z0, z1, _, _⟩ := blk2 x1
      cases hg : mget m ⟨v.frm, v.slot⟩ with
      | none =>
        have hb2 := Lib.hid (hsame.out (.inl hg))
        clear hsame hdiff
        have hB2 : Below W.heap.size W (W.alloc (.cells #[.int .u64 0, .int .u64 0] 35)) := (Below.refl _ W).alloc (Nat.le_refl _) _
        have hM2 := MapIs_below hMW hB2
        have hN2 := MapIs_below hNW hB2
        have hBw2 := below_call hBw hBw.size hB2
        have x2 : (W.alloc (.cells #[.int .u64 0, .int .u64 0] 35)).heap[W.heap.size]? = some (.cells #[.int .u64 0, .int .u64 0] 35 (0, 0)) := ha_at rfl
        have p0 := bl_own hB2 x0
        have p1 := bl_own hB2 x1
        have p2 := bl_own hB2 hC1
        have p3 := bl_own hB2 hR1
        obtain ⟨q0, q1, q2, q3⟩ := blk4 p0
        obtain ⟨q4, q5, _, _⟩ := blk2 p1
        obtain ⟨q6, q7, _, _⟩ := blk2 p2
        have hlr := hB.size
        have hne0 : some wr.heap.size ≠ some (w.heap.size + 1) := fun e => by have := MapIs_lt hM; have e' := Option.some.inj e; omega
        have hne1 : some (wr.heap.size + 1) ≠ some (w.heap.size + 1) := fun e => by have := MapIs_lt hM; have e' := Option.some.inj e; omega
        have hne2 : some W.heap.size ≠ some (w.heap.size + 1) := fun e => by have := MapIs_lt hMW; have e' := Option.some.inj e; omega
        have hne3 : some (w.heap.size + 1 + 1 + 1) ≠ some (w.heap.size + 1) := fun e => by have e' := Option.some.inj e; omega
        have hne4 : some w.heap.size ≠ some (w.heap.size + 1) := fun e => by have e' := Option.some.inj e; omega
        have hne5 : some (w.heap.size + 1 + 1) ≠ some (w.heap.size + 1) := fun e => by have e' := Option.some.inj e; omega
        have hnes := Lib.hid (And.intro hne0 (And.intro hne1 (And.intro hne2 (And.intro hne3 (And.intro hne4 hne5)))))
        clear hne0 hne1 hne2 hne3 hne4 hne5 hlr
        go_wp2_with (first
          | (at_lookup; refine wp_lookup (x := ⟨v.frm, v.slot⟩) rfl rfl KeyD Tryz.underlying71 (Tryz.zeroValue35 _) rfl rfl hMW (r := .tuple #[.agg #[.int .u64 0, .int .u64 0], .bool false]) (by rw [hg]; rfl) ?_)
          | (at_mapUpdate; refine wp_update rfl (.inl rfl) KeyD Tryz.underlying71 rfl (x := dty v) rfl (v := v.head) rfl hM2 ?_; intro w4 hM4 hg4 hz4; obtain ⟨s0, s1, s2, s3⟩ := blk4 (grown_own hg4 p0 hnes.out.1); obtain ⟨s4, s5, _, _⟩ := blk2 (grown_own hg4 p1 hnes.out.2.1); obtain ⟨s6, s7, _, _⟩ := blk2 (grown_own hg4 x2 hnes.out.2.2.1); have hC4 := grown_own hg4 p2 hnes.out.2.2.2.1; have hR4 := grown_own hg4 p3 hnes.out.2.2.2.2.1; have hN4 := MapIs_grown hN2 hg4 hnes.out.2.2.2.2.2; obtain ⟨s8, s9, _, _⟩ := blk2 hC4; have hB4 := below_step hBw2 hBw2.size hg4 (fun q e => by cases e; omega)))
        go_roundw
        case rel => exact ⟨k + 1, mput m (dty v) v.head, b, hlt, by go_num, hM4, hN4, by rw [htk'.out]; exact hb2, Nat.le_trans (mput_len _ _ _) (by omega), by omega, hR4, hC4, hB4⟩
        case measure => simp [intOf]; omega
      | some id =>
        have hneq := neq_idw id v.head
        by_cases hid : id = v.head
        · have hb2 := Lib.hid (hsame.out (.inr (by rw [← hid]; exact hg)))
          have hd : decide (id = v.head) = true := by simpa using hid
          rw [hd] at hneq
          clear hsame hdiff hid hd
          have hB2 : Below W.heap.size W (W.alloc (.cells #[.int .u64 id.hi, .int .u64 id.lo] 35)) := (Below.refl _ W).alloc (Nat.le_refl _) _
          have hM2 := MapIs_below hMW hB2
          have hN2 := MapIs_below hNW hB2
          have hBw2 := below_call hBw hBw.size hB2
          have x2 : (W.alloc (.cells #[.int .u64 id.hi, .int .u64 id.lo] 35)).heap[W.heap.size]? = some (.cells #[.int .u64 id.hi, .int .u64 id.lo] 35 (0, 0)) := ha_at rfl
          have p0 := bl_own hB2 x0
          have p1 := bl_own hB2 x1
          have p2 := bl_own hB2 hC1
          have p3 := bl_own hB2 hR1
          obtain ⟨q0, q1, q2, q3⟩ := blk4 p0
          obtain ⟨q4, q5, _, _⟩ := blk2 p1
          obtain ⟨q6, q7, _, _⟩ := blk2 p2
          have hlr := hB.size
          have hne0 : some wr.heap.size ≠ some (w.heap.size + 1) := fun e => by have := MapIs_lt hM; have e' := Option.some.inj e; omega
          have hne1 : some (wr.heap.size + 1) ≠ some (w.heap.size + 1) := fun e => by have := MapIs_lt hM; have e' := Option.some.inj e; omega
          have hne2 : some W.heap.size ≠ some (w.heap.size + 1) := fun e => by have := MapIs_lt hMW; have e' := Option.some.inj e; omega
          have hne3 : some (w.heap.size + 1 + 1 + 1) ≠ some (w.heap.size + 1) := fun e => by have e' := Option.some.inj e; omega
          have hne4 : some w.heap.size ≠ some (w.heap.size + 1) := fun e => by have e' := Option.some.inj e; omega
          have hne5 : some (w.heap.size + 1 + 1) ≠ some (w.heap.size + 1) := fun e => by have e' := Option.some.inj e; omega
          have hnes := Lib.hid (And.intro hne0 (And.intro hne1 (And.intro hne2 (And.intro hne3 (And.intro hne4 hne5)))))
          clear hne0 hne1 hne2 hne3 hne4 hne5 hlr
          go_wp2_with (first
            | (at_lookup; refine wp_lookup (x := ⟨v.frm, v.slot⟩) rfl rfl KeyD Tryz.underlying71 (Tryz.zeroValue35 _) rfl rfl hMW (r := .tuple #[.agg #[.int .u64 id.hi, .int .u64 id.lo], .bool true]) (by rw [hg]; rfl) ?_)
            | (at_mapUpdate; refine wp_update rfl (.inl rfl) KeyD Tryz.underlying71 rfl (x := dty v) rfl (v := v.head) rfl hM2 ?_; intro w4 hM4 hg4 hz4; obtain ⟨s0, s1, s2, s3⟩ := blk4 (grown_own hg4 p0 hnes.out.1); obtain ⟨s4, s5, _, _⟩ := blk2 (grown_own hg4 p1 hnes.out.2.1); obtain ⟨s6, s7, _, _⟩ := blk2 (grown_own hg4 x2 hnes.out.2.2.1); have hC4 := grown_own hg4 p2 hnes.out.2.2.2.1; have hR4 := grown_own hg4 p3 hnes.out.2.2.2.2.1; have hN4 := MapIs_grown hN2 hg4 hnes.out.2.2.2.2.2; obtain ⟨s8, s9, _, _⟩ := blk2 hC4; have hB4 := below_step hBw2 hBw2.size hg4 (fun q e => by cases e; omega)))
          go_roundw
          case rel => exact ⟨k + 1, mput m (dty v) v.head, b, hlt, by go_num, hM4, hN4, by rw [htk'.out]; exact hb2, Nat.le_trans (mput_len _ _ _) (by omega), by omega, hR4, hC4, hB4⟩
          case measure => simp [intOf]; omega
        · have hb2 := Lib.hid (hdiff.out id hg hid)
          have hd : decide (id = v.head) = false := by simpa using hid
          rw [hd] at hneq
          clear hsame hdiff hid hd
          have hB2 : Below W.heap.size W (W.alloc (.cells #[.int .u64 id.hi, .int .u64 id.lo] 35)) := (Below.refl _ W).alloc (Nat.le_refl _) _
          have hM2 := MapIs_below hMW hB2
          have hN2 := MapIs_below hNW hB2
          have hBw2 := below_call hBw hBw.size hB2
          have x2 : (W.alloc (.cells #[.int .u64 id.hi, .int .u64 id.lo] 35)).heap[W.heap.size]? = some (.cells #[.int .u64 id.hi, .int .u64 id.lo] 35 (0, 0)) := ha_at rfl
          have p0 := bl_own hB2 x0
          have p1 := bl_own hB2 x1
          have p2 := bl_own hB2 hC1
          have p3 := bl_own hB2 hR1
          obtain ⟨q0, q1, q2, q3⟩ := blk4 p0
          obtain ⟨q4, q5, _, _⟩ := blk2 p1
          obtain ⟨q6, q7, _, _⟩ := blk2 p2
          have hlr := hB.size
          have hne0 : some wr.heap.size ≠ some (w.heap.size + 1) := fun e => by have := MapIs_lt hM; have e' := Option.some.inj e; omega
          have hne1 : some (wr.heap.size + 1) ≠ some (w.heap.size + 1) := fun e => by have := MapIs_lt hM; have e' := Option.some.inj e; omega
          have hne2 : some W.heap.size ≠ some (w.heap.size + 1) := fun e => by have := MapIs_lt hMW; have e' := Option.some.inj e; omega
          have hne3 : some (w.heap.size + 1 + 1 + 1) ≠ some (w.heap.size + 1) := fun e => by have e' := Option.some.inj e; omega
          have hne4 : some w.heap.size ≠ some (w.heap.size + 1) := fun e => by have e' := Option.some.inj e; omega
          have hne5 : some (w.heap.size + 1 + 1) ≠ some (w.heap.size + 1) := fun e => by have e' := Option.some.inj e; omega
          have hnes := Lib.hid (And.intro hne0 (And.intro hne1 (And.intro hne2 (And.intro hne3 (And.intro hne4 hne5)))))
          clear hne0 hne1 hne2 hne3 hne4 hne5 hlr
          go_wp2_with (first
            | (at_lookup; refine wp_lookup (x := ⟨v.frm, v.slot⟩) rfl rfl KeyD Tryz.underlying71 (Tryz.zeroValue35 _) rfl rfl hMW (r := .tuple #[.agg #[.int .u64 id.hi, .int .u64 id.lo], .bool true]) (by rw [hg]; rfl) ?_)
            | (at_mapUpdate; refine wp_update rfl (.inl rfl) KeyD Tryz.underlying71 rfl (x := dty v) rfl (v := v.head) rfl hM2 ?_; intro w4 hM4 hg4 hz4; obtain ⟨s0, s1, s2, s3⟩ := blk4 (grown_own hg4 p0 hnes.out.1); obtain ⟨s4, s5, _, _⟩ := blk2 (grown_own hg4 p1 hnes.out.2.1); obtain ⟨s6, s7, _, _⟩ := blk2 (grown_own hg4 x2 hnes.out.2.2.1); have hC4 := grown_own hg4 p2 hnes.out.2.2.2.1; have hR4 := grown_own hg4 p3 hnes.out.2.2.2.2.1; have hN4 := MapIs_grown hN2 hg4 hnes.out.2.2.2.2.2; obtain ⟨s8, s9, _, _⟩ := blk2 hC4; have hB4 := below_step hBw2 hBw2.size hg4 (fun q e => by cases e; omega))
            | (at_mapUpdate; refine wp_update rfl (.inl rfl) KeyD Tryz.underlying72 rfl (x := dty v) rfl (v := true) rfl hN4 ?_; intro w5 hN5 hg5 hz5; have hM5 := MapIs_grown hM4 hg5 (fun e => by have e' := Option.some.inj e; omega); have hC5 := grown_own hg5 hC4 (fun e => by have e' := Option.some.inj e; omega); have hR5 := grown_own hg5 hR4 (fun e => by have e' := Option.some.inj e; omega); have hB5 := below_step hB4 hB4.size hg5 (fun q e => by cases e; omega)))
          go_roundw
          case rel => exact ⟨k + 1, mput m (dty v) v.head, mput b (dty v) true, hlt, by go_num, hM5, hN5, by rw [htk'.out]; exact hb2, Nat.le_trans (mput_len _ _ _) (by omega), Nat.le_trans (mput_len _ _ _) (by omega), hR5, hC5, hB5⟩
          case measure => simp [intOf]; omega
    · obtain rfl : k = l.length := by omega
      rw [List.take_length] at hbk
      obtain ⟨c0, c1, _, _⟩ := blk2 hC
      obtain ⟨r0, r1, r2, r3⟩ := blk2 hR
      go_wp2_with fail
      have hs := set2 hR (.map (some (w.heap.size + 1))) (.map (some (w.heap.size + 1 + 1)))
      obtain ⟨z0, z1, _, _⟩ := blk2 hs.1
      refine bodyPost_ret (v := .agg #[.map (some (w.heap.size + 1)), .map (some (w.heap.size + 1 + 1))]) ?_ rfl ⟨m, b, w.heap.size + 1, w.heap.size + 1 + 1, rfl, by omega, by omega, MapIs_grown hM hs.2 (fun e => by have e' := Option.some.inj e; omega), MapIs_grown hN hs.2 (fun e => by have e' := Option.some.inj e; omega), hbk.out, hml, hbl, below_step hB hB.size hs.2 (fun q e => by cases e; exact Nat.le_refl _)⟩
      simp [results, Tryz.results52, go_sem, z0, z1]
end Go.Proofs.YtaohkcdfjjiggaaGreat
/-! A row of a call's own, of elements of some cells each, that the library's sort has laid anew. -/
namespace Go.Proofs.YtaohkcdfjjiggaaGreat
open Go.RowKit
section
variable {α : Type} [Inhabited α] {enc : α → List Value} {k : Nat}
theorem flatK_list (hk : ∀ x, (enc x).length = k) (hk0 : 0 < k) (d : Array α) : (Sort.flatK enc k d).toList = d.toList.flatMap enc := by
  have hl : (d.toList.flatMap enc).length = d.size * k := by rw [flatMap_len hk]; simp
  apply List.ext_getElem?
  intro t
  by_cases ht : t < d.size * k
  · have hq : t / k < d.size := Nat.div_lt_of_lt_mul (by rwa [Nat.mul_comm])
    have hr : t % k < k := Nat.mod_lt _ hk0
    have h1 : (Sort.flatK enc k d).toList[t]? = some ((enc d[t / k]!)[t % k]!) := by
      have hs : t < (Sort.flatK enc k d).size := by simpa using ht
      have := Sort.get_flatK enc k d t ht
      rw [getElem!_pos _ t hs] at this
      rw [Array.getElem?_toList, Array.getElem?_eq_getElem hs, this]
    have hge : d.toList[t / k]? = some d[t / k]! := by simp [hq]
    have hlen : t % k < (enc d[t / k]!).length := by rw [hk]; exact hr
    have h2 := flatMap_get hk d.toList (t / k) _ hge (t % k) _ (List.getElem?_eq_getElem hlen)
    have hd : t / k * k + t % k = t := by rw [Nat.mul_comm]; exact Nat.div_add_mod t k
    rw [hd] at h2
    rw [h1, h2, getElem!_pos (enc d[t / k]!) (t % k) hlen]
  · rw [List.getElem?_eq_none (by simp; omega), List.getElem?_eq_none (by rw [hl]; omega)]
theorem Own.holdsK (hk : ∀ x, (enc x).length = k) (hk0 : 0 < k) {w : World} {e : TypeId} {g : Nat} {cur : Array Value} {l : List α} (hh : w.heap[g]? = some (.cells cur e (0, 0))) (ht : cur.toList.take (l.length * k) = l.flatMap enc) :
    Sort.HoldsK enc k w g 0 l.toArray := by
  intro j hj
  have hj' : j < l.length * k := by simpa using hj
  refine ⟨?_, by simp [World.frozen?, hh]⟩
  rw [Nat.zero_add, blk_cell hh j]
  have h1 := flatK_list hk hk0 l.toArray
  have h2 : (cur.toList.take (l.length * k))[j]? = (Sort.flatK enc k l.toArray).toList[j]? := by rw [ht, h1]
  rw [List.getElem?_take_of_lt hj'] at h2
  rw [getElem!_pos _ j hj]
  simp only [id]
  have h3 : (Sort.flatK enc k l.toArray).toList[j]? = some ((Sort.flatK enc k l.toArray)[j]) := by simp
  rw [h3] at h2
  simpa using h2
theorem rowK_heap {w : World} {g : Nat} {cur : Array Value} {e : TypeId} (hh : w.heap[g]? = some (.cells cur e (0, 0))) (F : Array Value) (n : Nat) (os : Array Obj) :
    (Sort.grow (Sort.putRow id (Sort.ahead w n) g 0 F) os).heap[g]? = some (.cells (Sort.putCells id 0 F cur) e (0, 0)) := by
  have hlt := lt_of_block hh
  rw [Sort.heap_grow_old _ _ (by simpa using hlt)]
  simp [Sort.putRow, Sort.mapBlock, Array.getElem?_modify, hh, Sort.onCells]
theorem rowK_other {w : World} {g j : Nat} (hj : j < w.heap.size) (hne : j ≠ g) (F : Array Value) (n : Nat) (os : Array Obj) :
    (Sort.grow (Sort.putRow id (Sort.ahead w n) g 0 F) os).heap[j]? = w.heap[j]? := by
  rw [Sort.heap_grow_old _ _ (by simpa using hj)]
  simp [Sort.putRow, Sort.mapBlock, Array.getElem?_modify, Ne.symm hne]
theorem putCellsK_take {cur : Array Value} {F : Array Value} (h : F.size ≤ cur.size) : (Sort.putCells id 0 F cur).toList.take F.size = F.toList := by
  apply List.ext_getElem?
  intro j
  rw [List.getElem?_take]
  by_cases hj : j < F.size
  · have hc : j < cur.size := by omega
    simp [Sort.putCells, hj, hc]
  · simp [hj]
theorem Own.relaidK (hk : ∀ x, (enc x).length = k) (hk0 : 0 < k) {w : World} {base : Nat} {e : TypeId} {g cap : Nat} {cur : Array Value} (hb : base ≤ g) (hh : w.heap[g]? = some (.cells cur e (0, 0))) (hm : cap ≤ maxLen) (hs : cur.size = cap * k) (d : Array α) (hd : d.size ≤ cap) (n : Nat) (os : Array Obj) :
    Own (sortWorldK enc k w g 0 n d os) base e k enc (.slice (some ⟨g, 0, none⟩) d.size cap) d.toList := by
  refine ⟨by rw [flatMap_len hk], .inr ⟨g, cap, _, by simp, hb, rowK_heap hh _ n os, by simpa using hd, hm, by simp [Sort.putCells, hs], ?_⟩⟩
  have hF : (Sort.flatK enc k d).size ≤ cur.size := by rw [Sort.size_flatK, hs]; exact Nat.mul_le_mul_right k hd
  have ht := putCellsK_take hF
  rw [Sort.size_flatK] at ht
  rw [← flatK_list hk hk0, ← ht]
  simp
theorem grownBy_rowK {w : World} {g : Nat} (d : Array α) (n : Nat) (os : Array Obj) : w.grownBy (sortWorldK enc k w g 0 n d os) (some g) :=
  ⟨rfl, rfl, rfl, by unfold sortWorldK Sort.putRowK; simp, fun j hj hne => rowK_other hj (fun e => hne (by rw [e])) _ n os⟩
theorem permIn_whole {d d' : Array α} (h : Sort.PermIn 0 d.size d d') : d'.toList.Perm d.toList := by
  obtain ⟨h1, _, h3⟩ := h
  have e1 : (d'.extract 0 d.size) = d' := by rw [← h1]; simp
  have e2 : (d.extract 0 d.size) = d := by simp
  rw [e1, e2] at h3
  exact h3
theorem sortedIn_pairwise {lt : α → α → Bool} {d : Array α} {n : Nat} (hn : d.size = n) (h : Sort.SortedIn lt 0 n d) : d.toList.Pairwise (fun x y => lt y x = false) := by
  rw [List.pairwise_iff_getElem]
  intro i j hi hj hij
  have hi' : i < d.size := by simpa using hi
  have hj' : j < d.size := by simpa using hj
  have := h i j (Nat.zero_le _) hij (by omega)
  rw [getElem!_pos d i hi', getElem!_pos d j hj'] at this
  simpa using this
end
end Go.Proofs.YtaohkcdfjjiggaaGreat
/-! Votes sorted by who it is: the walk of votes.sorted. -/
namespace Go.Proofs.YtaohkcdfjjiggaaGreat
open Go.RowKit
instance instInhVt : Inhabited Vote := ⟨⟨0, 0, ⟨0, 0⟩⟩⟩
set_option maxHeartbeats 400000 in
theorem isnan_any (a : Int) (w : World) : Calls Tryz.prog 122 #[.int .i64 a] w fun e w' => e = .returned (.bool false) ∧ w' = w := by
  go_enter Tryz.func122, Tryz.ntmps122
  go_wp2
  go_ret
  exact ⟨rfl, rfl⟩
def cmpI (x y : Int) : Int := if x < y then -1 else if y < x then 1 else 0
set_option maxHeartbeats 400000 in
theorem compare_any (a b : Int) (w : World) : Calls Tryz.prog 90 #[.int .i64 a, .int .i64 b] w fun e w' => e = .returned (.int .i64 (cmpI a b)) ∧ w' = w := by
  unfold cmpI
  by_cases h1 : a < b
  · rw [if_pos h1]
    go_enter Tryz.func90, Tryz.ntmps90
    go_wp2_with (go_at_call 122; refine (isnan_any _ _).mono ?_; rintro e w' ⟨rfl, rfl⟩)
    go_ret
    exact ⟨rfl, rfl⟩
  · rw [if_neg h1]
    by_cases h2 : b < a
    · rw [if_pos h2]
      go_enter Tryz.func90, Tryz.ntmps90
      go_wp2_with (go_at_call 122; refine (isnan_any _ _).mono ?_; rintro e w' ⟨rfl, rfl⟩)
      go_ret
      exact ⟨rfl, rfl⟩
    · rw [if_neg h2]
      go_enter Tryz.func90, Tryz.ntmps90
      go_wp2_with (go_at_call 122; refine (isnan_any _ _).mono ?_; rintro e w' ⟨rfl, rfl⟩)
      go_ret
      exact ⟨rfl, rfl⟩
def cmpV (x y : Vote) : Int := cmpI x.frm y.frm
theorem ltV (x y : Vote) : ltOf cmpV x y = decide (x.frm < y.frm) := by
  unfold ltOf cmpV cmpI
  by_cases h1 : x.frm < y.frm
  · simp [h1]
  · by_cases h2 : y.frm < x.frm <;> simp [h1, h2]
theorem swoV : Sort.SWO (ltOf cmpV) where
  irrefl x := by rw [ltV]; simp
  trans x y z h1 h2 := by rw [ltV] at *; simp at *; omega
  ntrans x y z h1 h2 := by rw [ltV] at *; simp at *; omega
set_option maxHeartbeats 1000000 in
theorem cmp_any (x y : Vote) (W : World) : Calls Tryz.prog 89 #[.agg (encVote x).toArray, .agg (encVote y).toArray] W fun e w' => e = .returned (.int .i64 (cmpV x y)) ∧ ∃ q os', w' = Sort.grow (W.drewN q) os' := by
  have hcon := fun W' => compare_any x.frm y.frm W'
  unfold cmpV
  obtain ⟨r, hr⟩ : ∃ r, cmpI x.frm y.frm = r := ⟨_, rfl⟩
  rw [hr] at hcon ⊢
  clear hr
  unfold encVote
  go_enter Tryz.func89, Tryz.ntmps89
  go_wp2_with (go_at_call 90; refine (hcon _).mono ?_; rintro e w' ⟨rfl, rfl⟩)
  go_ret
  exact ⟨rfl, 0, _, by rw [Sort.alloc_eq_grow, Sort.alloc_eq_grow, Sort.grow_grow]; rfl⟩
theorem vsortf_any (l : List Vote) (v : Value) (base : Nat) (w : World) (hown : Own w base 42 4 encVote v l) (hl : l.length < 4611686018427387904) :
    Calls Tryz.prog 88 #[v, .func (.func 89) #[] #[]] w fun e w' => e = .returned (.tuple #[]) ∧ ∃ l', Own w' base 42 4 encVote v l' ∧ l'.Perm l ∧ l'.Pairwise (fun x y => x.frm ≤ y.frm) ∧ w.grownBy w' v.ownBlock := by
  rcases hown.block with ⟨rfl, rfl⟩ | ⟨g, cap, cur, rfl, hb, hh, hle, hm, hs, ht⟩
  · have hcon := AnyF.slices_SortFunc_none sh_sortV none 0 (.func (.func 89) #[] #[]) w
    change Calls Tryz.prog 88 _ _ _ at hcon
    refine hcon.mono fun e w' ⟨he, hw⟩ => ?_
    subst hw
    exact ⟨he, [], Own.nil _ _ _ _ _, List.Perm.refl _, List.Pairwise.nil, rfl, rfl, rfl, Nat.le_refl _, fun _ _ _ => rfl⟩
  · have eg : ∀ args w, (callFunc 89 args).run Tryz.prog w = .ok (.enter 89 args) w := enters_of Tryz.func89 (by kernel_rfl) rfl
    have hcon := AnyQ.slices_SortFunc sh_sortV 4 Tryz.isAgg42 Tryz.sizeOf42 encVote encVote_len (fun x v hv => encVote_one x v hv) cmpV swoV 89 #[] g 0 cap l.toArray w eg (fun _ _ _ _ x y => cmp_any x y _) (Own.holdsK encVote_len (by decide) hh ht) (lt_of_block hh) (by simpa using hl)
    change Calls Tryz.prog 88 _ _ _ at hcon
    refine hcon.mono fun e w' ⟨he, d', n, os, hp, hso, hw⟩ => ?_
    subst hw
    have hsz : d'.size = l.length := by simpa using hp.1
    have ho := Own.relaidK encVote_len (by decide) hb hh hm hs d' (by omega) n os
    rw [hsz] at ho
    refine ⟨he, d'.toList, ho, by simpa using permIn_whole hp, ?_, grownBy_rowK d' n os⟩
    have := sortedIn_pairwise (n := l.toArray.size) (by simpa using hsz) hso
    refine this.imp fun {x y} h => ?_
    rw [ltV] at h
    simp at h
    exact h
set_option maxHeartbeats 1000000 in
theorem sorted_any (l : List Vote) (v : Value) (base : Nat) (w : World) (hown : Own w base 42 4 encVote v l) (hl : l.length < 4611686018427387904) :
    Calls Tryz.prog 53 #[v] w fun e w' => e = .returned v ∧ ∃ l', Own w' base 42 4 encVote v l' ∧ l'.Perm l ∧ l'.Pairwise (fun x y => x.frm ≤ y.frm) ∧ w.grownBy w' v.ownBlock := by
  have hcon := vsortf_any l v base w hown hl
  obtain ⟨A, c, hv, _⟩ := hown.rd encVote_len
  obtain ⟨n, hn⟩ : ∃ n, l.length = n := ⟨_, rfl⟩
  rw [hn] at hv
  subst hv
  have hcon' := Lib.hid hcon
  clear hcon hn hown hl
  go_enter Tryz.func53, Tryz.ntmps53
  go_wp2_with (go_at_call 88; with_reducible refine hcon'.out.mono ?_; rintro e w1 ⟨rfl, h⟩; have h' := Lib.hid h; clear h)
  go_ret
  exact ⟨rfl, h'.out⟩
/-- Sorted by who it is, where nobody is there twice. -/
theorem sortedV_rises {l : List Vote} (h : l.Pairwise (fun x y => x.frm ≤ y.frm)) (hn : (l.map (·.frm)).Nodup) : RisesV l := by
  unfold RisesV
  refine rises_of fun i hi => ?_
  have hi' : i + 1 < l.length := by simpa using hi
  have h1 := List.pairwise_iff_getElem.1 h i (i + 1) (by omega) hi' (by omega)
  have h2 := List.pairwise_iff_getElem.1 hn i (i + 1) (by simpa using Nat.lt_of_succ_lt hi') hi (by omega)
  simp only [List.getElem_map] at h2 ⊢
  omega
end Go.Proofs.YtaohkcdfjjiggaaGreat
/-! The walks of votes.Doubles and votes.Of. -/
namespace Go.Proofs.YtaohkcdfjjiggaaGreat
open Go.RowKit
/-- What has been told of the keys that came. -/
def DR (s : Int) (b : List (Dty × Bool)) (came : List Dty) (out : List Int) : Prop :=
  (∀ d ∈ came, d ∈ b.map (·.1)) ∧ came.Nodup ∧ (∀ f, f ∈ out ↔ ∃ d ∈ came, d.slot = s ∧ d.frm = f) ∧ out.Nodup ∧ out.length ≤ came.length
theorem nodup_sub_len {α : Type} [DecidableEq α] : ∀ {l m : List α}, l.Nodup → (∀ x ∈ l, x ∈ m) → l.length ≤ m.length
  | [], _, _, _ => Nat.zero_le _
  | x :: l, m, hn, h => by
    rw [List.nodup_cons] at hn
    have hx := h x (by simp)
    have : l.length ≤ (m.erase x).length := nodup_sub_len hn.2 (fun y hy => (List.mem_erase_of_ne (fun e => hn.1 (by rw [← e]; exact hy))).2 (h y (by simp [hy])))
    rw [List.length_erase_of_mem hx] at this
    have hp : 0 < m.length := List.length_pos_of_mem hx
    simp only [List.length_cons]
    omega
theorem dr_len {s : Int} {b : List (Dty × Bool)} {came : List Dty} {out : List Int} (h : DR s b came out) : out.length ≤ b.length := by
  have := nodup_sub_len h.2.1 h.1
  rw [List.length_map] at this
  exact Nat.le_trans h.2.2.2.2 this
theorem dr_nil (s : Int) (b : List (Dty × Bool)) : DR s b [] [] := ⟨by simp, List.nodup_nil, by simp, List.nodup_nil, Nat.le_refl _⟩
theorem dr_skip {s : Int} {b : List (Dty × Bool)} {came : List Dty} {out : List Int} (h : DR s b came out) {d : Dty} {v : Bool} (hd : (d, v) ∈ b) (hn : d ∉ came) (hs : ¬ d.slot = s) : DR s b (d :: came) out := by
  refine ⟨fun x hx => ?_, List.nodup_cons.2 ⟨hn, h.2.1⟩, fun f => ?_, h.2.2.2.1, Nat.le_succ_of_le h.2.2.2.2⟩
  · rcases List.mem_cons.1 hx with rfl | hx
    · exact List.mem_map_of_mem (f := (·.1)) hd
    · exact h.1 x hx
  · rw [h.2.2.1]
    constructor
    · rintro ⟨x, hx, r⟩; exact ⟨x, by simp [hx], r⟩
    · rintro ⟨x, hx, r⟩
      rcases List.mem_cons.1 hx with rfl | hx
      · exact absurd r.1 hs
      · exact ⟨x, hx, r⟩
theorem dr_take {s : Int} {b : List (Dty × Bool)} {came : List Dty} {out : List Int} (h : DR s b came out) {d : Dty} {v : Bool} (hd : (d, v) ∈ b) (hn : d ∉ came) (hs : d.slot = s) : DR s b (d :: came) (out ++ [d.frm]) := by
  have hno : d.frm ∉ out := fun hf => by
    obtain ⟨x, hx, h1, h2⟩ := (h.2.2.1 _).1 hf
    have : x = d := by obtain ⟨a, b⟩ := x; obtain ⟨a', b'⟩ := d; simp only at h1 h2 hs; rw [h1, h2, hs]
    exact hn (this ▸ hx)
  refine ⟨fun x hx => ?_, List.nodup_cons.2 ⟨hn, h.2.1⟩, fun f => ?_, ?_, by have := h.2.2.2.2; simp; omega⟩
  · rcases List.mem_cons.1 hx with rfl | hx
    · exact List.mem_map_of_mem (f := (·.1)) hd
    · exact h.1 x hx
  · rw [List.mem_append, List.mem_singleton, h.2.2.1]
    constructor
    · rintro (⟨x, hx, r⟩ | rfl)
      · exact ⟨x, by simp [hx], r⟩
      · exact ⟨d, by simp, hs, rfl⟩
    · rintro ⟨x, hx, r⟩
      rcases List.mem_cons.1 hx with rfl | hx
      · exact .inr r.2.symm
      · exact .inl ⟨x, hx, r⟩
  · rw [List.nodup_append]
    refine ⟨h.2.2.2.1, by simp, fun a ha b hb => ?_⟩
    simp only [List.mem_singleton] at hb
    subst hb
    exact fun e => hno (e ▸ ha)
theorem dr_end {l : List Vote} {m : List (Dty × ID)} {s : Int} {b : List (Dty × Bool)} {came : List Dty} {out : List Int} (h : DR s b came out) (hb : Book l m b) (hall : ∀ p ∈ b, p.1 ∈ came) : isort out = dblL l s := by
  refine dblL_eq ⟨isort_rises h.2.2.2.1, fun f => ?_⟩
  rw [mem_isort, h.2.2.1]
  constructor
  · rintro ⟨d, hd, hs, rfl⟩
    obtain ⟨p, hp, rfl⟩ := List.mem_map.1 (h.1 d hd)
    rw [← hs, ← hb.bad]
    unfold mget
    rw [Option.isSome_map, List.find?_isSome]
    exact ⟨p, hp, by simp⟩
  · intro hd
    obtain ⟨x, hx⟩ := Option.isSome_iff_exists.1 ((hb.bad ⟨f, s⟩).2 hd)
    exact ⟨⟨f, s⟩, hall _ (mgot_mem hx), rfl, rfl⟩
theorem dbl_lay (w : World) (o : Obj) (cs : Array Value) (T : TypeId) : Below w.heap.size w ((w.alloc o).alloc (.cells cs T)) ∧ ((w.alloc o).alloc (.cells cs T)).heap[w.heap.size + 1]? = some (.cells cs T (0, 0)) :=
  ⟨((Below.refl _ w).alloc (Nat.le_refl _) _).alloc (by simp) _, ha_at (by simp)⟩
theorem field_book0 (M1 M2 : Nat) (w : World) : (Instr.field 74 (.agg #[.map (some M1), .map (some M2)]) 0).run Tryz.prog w = .ok (.map (some M1)) w := by kernel_rfl
theorem field_book1 (M1 M2 : Nat) (w : World) : (Instr.field 74 (.agg #[.map (some M1), .map (some M2)]) 1).run Tryz.prog w = .ok (.map (some M2)) w := by kernel_rfl
set_option maxRecDepth 100000 in
set_option maxHeartbeats 2000000 in
theorem doubles_any (l : List Vote) (s : Int) (A : Option Addr) (c : Nat) (w : World) (hr : Rd 4 encVote w A l) (hl : l.length ≤ 100000) :
    Calls Tryz.prog 33 #[.slice A l.length c, .int .i64 s] w fun e w' => ∃ u, e = .returned u ∧ Own w' w.heap.size 3 1 encI u (dblL l s) ∧ Below w.heap.size w w' := by
  have hm := hr.1
  have hun := Tryz.underlying22
  have hbook := book_any l A c w hr
  have hfb := field_book1
  go_enter Tryz.func33, Tryz.ntmps33
  go_wp2_with (first
    | (go_at_call 52; (with_reducible refine hbook.mono ?_); clear hbook; rintro e w1 ⟨m, b, M1, M2, rfl, hM1, hM2, hm1, hm2, hbk, hml, hbl, hB1⟩; have hbk' := Lib.hid hbk; clear hbk)
    | (at_range; refine wp_range rfl rfl Tryz.underlying72 rfl hm2 rfl ?_; intro w2 hR hB2 hz2))
  go_frame
  have hB := below_call hB1 hB1.size hB2
  have hlr := hB1.size
  go_loopw [5, 6] (fun u _u6 wr => ∃ (came : List Dty) (out : List Int), RIs dtyv Value.bool wr M2 w1.heap.size b came ∧ Own wr w.heap.size 3 1 encI u out ∧ u.ownBlock ≠ some w1.heap.size ∧ Hid (DR s b came out) ∧ Below w.heap.size w wr) (fun _ _ wr => wr.rangeLeft M2 w1.heap.size)
  case atStart => exact ⟨[], [], hR, Own.nil _ _ _ _ _, by simp [Value.ownBlock], Lib.hid (dr_nil s b), hB⟩
  case round =>
    obtain ⟨came, out, hR, hown, hob, hdr, hB⟩ := hrel
    have hvb : ∀ j, u5.ownBlock = some j → w.heap.size ≤ j := fun j hj => (hown.base j hj).1
    have hol := dr_len hdr.out
    have hdend := Lib.hid (fun hall => dr_end hdr.out hbk'.out hall)
    have hs1 := isort_any out u5 w.heap.size wr hown (by omega)
    go_wp2_with (first
      | (at_next; refine wp_next rfl rfl rfl hR ?_ ?_; intro hall; rotate_left; intro d v w3 hcm hen; unfold dtyv at hen; have ho3 := hown.grown hcm.grown (.inr hob); have hB3 := below_step hB hB.size hcm.grown (fun q e => by cases e; exact hlr); have hbw := dbl_lay w3 (.cells #[.int .i64 d.frm, .int .i64 d.slot] 77) #[.int .i64 d.frm] 3; have ho5 := ho3.below hbw.1; have hB5 := below_call hB3 hB3.size hbw.1; have hx5 := hbw.2; have hr5 := (hcm.ris.below hbw.1); rotate_left)
      | (go_at_call 67; (with_reducible refine hs1.mono ?_); clear hs1; rintro e w3 ⟨rfl, ho3, hg3⟩)
      | (at_builtin; refine wp_append1 rfl rfl hun infoI rfl (by decide) encI_len encI_one rfl ho5 (g := w3.heap.size + 1) (c := 1) rfl (y := d.frm) hx5 rfl (by omega) (by unfold maxLen; omega) hB5.size ?_; intro v' w5 ho6 hg6 hat6))
    · go_ret
      exact ⟨_, rfl, by rw [← hdend.out hall.out]; exact ho3, below_step hB hB.size hg3 hvb⟩
    · have hs : d.slot = s := by have : (d.slot == s) = true := by assumption
                                 simpa using this
      have hne : some w1.heap.size ≠ u5.ownBlock := fun e => hob e.symm
      have hob' : v'.ownBlock ≠ some w1.heap.size := by
        rcases hat6 with h | h
        · rw [h]; exact hob
        · rw [h]; intro e; have e' := Option.some.inj e; have h1 := hbw.1.size; have h2 := hcm.ris.lt; omega
      have hr6 := hr5.1.grown hg6 (fun e => own_ne_map ho5 hr5.1.map e.symm) hne
      go_roundw
      case rel => exact ⟨d :: came, out ++ [d.frm], hr6.1, ho6, hob', Lib.hid (dr_take hdr.out hcm.mem hcm.fresh hs), below_step hB5 hB5.size hg6 hvb⟩
      case measure => rw [hr6.2, hr5.2]; exact hcm.less
    · have hs : ¬ d.slot = s := by have : (d.slot == s) = false := by assumption
                                   simpa using this
      have hra := (hcm.ris.below ((Below.refl _ w3).alloc (Nat.le_refl _) (.cells #[.int .i64 d.frm, .int .i64 d.slot] 77)))
      go_roundw
      case rel => exact ⟨d :: came, out, hra.1, ho3.below ((Below.refl _ w3).alloc (Nat.le_refl _) _), hob, Lib.hid (dr_skip hdr.out hcm.mem hcm.fresh hs), hB3.alloc hB3.size _⟩
      case measure => rw [hra.2]; exact hcm.less
end Go.Proofs.YtaohkcdfjjiggaaGreat
/-! The walk of votes.Of. -/
namespace Go.Proofs.YtaohkcdfjjiggaaGreat
open Go.RowKit
/-- What has been told of the duties that came. -/
def OR (s : Int) (m : List (Dty × ID)) (b : List (Dty × Bool)) (came : List Dty) (out : List Vote) : Prop :=
  (∀ d ∈ came, d ∈ m.map (·.1)) ∧ came.Nodup ∧ (∀ v, v ∈ out ↔ dty v ∈ came ∧ v.slot = s ∧ mget m (dty v) = some v.head ∧ mget b (dty v) = none) ∧ (out.map (·.frm)).Nodup ∧ out.length ≤ came.length
theorem or_len {s : Int} {m : List (Dty × ID)} {b : List (Dty × Bool)} {came : List Dty} {out : List Vote} (h : OR s m b came out) : out.length ≤ m.length := by
  have := nodup_sub_len h.2.1 h.1
  rw [List.length_map] at this
  exact Nat.le_trans h.2.2.2.2 this
theorem or_nil (s : Int) (m : List (Dty × ID)) (b : List (Dty × Bool)) : OR s m b [] [] := ⟨by simp, List.nodup_nil, by simp, List.nodup_nil, Nat.le_refl _⟩
theorem or_skip {s : Int} {m : List (Dty × ID)} {b : List (Dty × Bool)} {came : List Dty} {out : List Vote} (h : OR s m b came out) {d : Dty} {i : ID} (hd : (d, i) ∈ m) (hn : d ∉ came) (hs : d.slot = s → mget b d ≠ none) : OR s m b (d :: came) out := by
  refine ⟨fun x hx => ?_, List.nodup_cons.2 ⟨hn, h.2.1⟩, fun v => ?_, h.2.2.2.1, Nat.le_succ_of_le h.2.2.2.2⟩
  · rcases List.mem_cons.1 hx with rfl | hx
    · exact List.mem_map_of_mem (f := (·.1)) hd
    · exact h.1 x hx
  · rw [h.2.2.1, List.mem_cons]
    constructor
    · rintro ⟨h1, r⟩; exact ⟨.inr h1, r⟩
    · rintro ⟨h1 | h1, h2, h3, h4⟩
      · rw [h1] at h4
        exact absurd h4 (hs (by rw [← h1]; exact h2))
      · exact ⟨h1, h2, h3, h4⟩
theorem or_take {s : Int} {m : List (Dty × ID)} {b : List (Dty × Bool)} {came : List Dty} {out : List Vote} (h : OR s m b came out) (hm : (m.map (·.1)).Nodup) {d : Dty} {i : ID} (hd : (d, i) ∈ m) (hn : d ∉ came) (hs : d.slot = s) (hb : mget b d = none) : OR s m b (d :: came) (out ++ [⟨d.frm, s, i⟩]) := by
  have hdd : (⟨d.frm, s⟩ : Dty) = d := by obtain ⟨a, b⟩ := d; simp only at hs; rw [hs]
  have hg := mem_mget hm hd
  refine ⟨fun x hx => ?_, List.nodup_cons.2 ⟨hn, h.2.1⟩, fun v => ?_, ?_, by have := h.2.2.2.2; simp; omega⟩
  · rcases List.mem_cons.1 hx with rfl | hx
    · exact List.mem_map_of_mem (f := (·.1)) hd
    · exact h.1 x hx
  · rw [List.mem_append, List.mem_singleton, h.2.2.1, List.mem_cons]
    constructor
    · rintro (⟨h1, r⟩ | rfl)
      · exact ⟨.inr h1, r⟩
      · refine ⟨.inl hdd, rfl, ?_, ?_⟩
        · show mget m ⟨d.frm, s⟩ = some i; rw [hdd]; exact hg
        · show mget b ⟨d.frm, s⟩ = none; rw [hdd]; exact hb
    · rintro ⟨h1 | h1, h2, h3, h4⟩
      · right
        rw [h1, hg] at h3
        obtain ⟨vf, vs, vh⟩ := v
        simp only [dty] at h1 h2 h3
        cases h3
        subst h1
        cases h2
        rfl
      · exact .inl ⟨h1, h2, h3, h4⟩
  · rw [List.map_append, List.nodup_append]
    refine ⟨h.2.2.2.1, by simp, fun a ha c hc => ?_⟩
    simp only [List.map_cons, List.map_nil, List.mem_singleton] at hc
    subst hc
    intro e
    obtain ⟨v, hv, rfl⟩ := List.mem_map.1 ha
    obtain ⟨h1, h2, _⟩ := (h.2.2.1 v).1 hv
    have : dty v = d := by rw [← hdd]; unfold dty; rw [e, h2]
    exact hn (this ▸ h1)
theorem or_end {l : List Vote} {s : Int} {m : List (Dty × ID)} {b : List (Dty × Bool)} {came : List Dty} {out o : List Vote} (h : OR s m b came out) (hb : Book l m b) (hall : ∀ p ∈ m, p.1 ∈ came) (hp : o.Perm out) (hs : o.Pairwise (fun x y => x.frm ≤ y.frm)) : o = ofL l s := by
  refine ofL_eq ⟨sortedV_rises hs ((hp.map _).nodup_iff.2 h.2.2.2.1), fun v => ?_⟩
  rw [hp.mem_iff, h.2.2.1]
  have hbad : mget b (dty v) = none ↔ ¬ Dbl l v.slot v.frm := by
    have := hb.bad (dty v)
    rw [show (dty v).slot = v.slot from rfl, show (dty v).frm = v.frm from rfl] at this
    rw [← this]
    cases mget b (dty v) <;> simp
  unfold InOf
  constructor
  · rintro ⟨_, h2, h3, h4⟩
    refine ⟨?_, h2, by rw [← h2]; exact hbad.1 h4⟩
    have := hb.there _ _ h3
    exact this
  · rintro ⟨h1, h2, h3⟩
    obtain ⟨i, hi⟩ := Option.isSome_iff_exists.1 (hb.all v h1)
    have hv := hb.there _ _ hi
    have he : i = v.head := by
      have := dbl_one hv h1 rfl rfl (by show ¬ Dbl l v.slot v.frm; rw [h2]; exact h3)
      exact congrArg Vote.head this
    exact ⟨hall _ (mgot_mem hi), h2, by rw [hi, he], hbad.2 (by rw [h2]; exact h3)⟩
theorem al_size (w : World) (o : Obj) : (w.alloc o).heap.size = w.heap.size + 1 := by simp
theorem of_lay (w : World) (o1 o2 : Obj) (cs : Array Value) (T : TypeId) : Below w.heap.size w (((w.alloc o1).alloc o2).alloc (.cells cs T)) ∧ (((w.alloc o1).alloc o2).alloc (.cells cs T)).heap[w.heap.size + 1 + 1]? = some (.cells cs T (0, 0)) ∧ Below w.heap.size w ((w.alloc o1).alloc o2) ∧ Below ((w.alloc o1).alloc o2).heap.size ((w.alloc o1).alloc o2) (((w.alloc o1).alloc o2).alloc (.cells cs T)) :=
  ⟨(((Below.refl _ w).alloc (Nat.le_refl _) _).alloc (by simp) _).alloc (by simp; omega) _, ha_at (by simp), ((Below.refl _ w).alloc (Nat.le_refl _) _).alloc (by simp) _, (Below.refl _ _).alloc (Nat.le_refl _) _⟩
theorem lookup_bad {w : World} {M : Nat} {b : List (Dty × Bool)} (hM : MapIs dtyv Value.bool w M b) (d : Dty) {q : Bool} (hg : (mget b d).getD false = q) :
    (Instr.lookup 72 (.map (some M)) (.agg #[.int .i64 d.frm, .int .i64 d.slot]) false).run Tryz.prog w = .ok (.bool q) w := by
  have h := lookup_run KeyD Tryz.underlying72 (Tryz.zeroValue4 _) hM d false
  unfold dtyv at h
  rw [h, ← hg]
  cases mget b d <;> rfl
set_option maxRecDepth 100000 in
set_option maxHeartbeats 4000000 in
theorem vof_any (l : List Vote) (s : Int) (A : Option Addr) (c : Nat) (w : World) (hr : Rd 4 encVote w A l) (hl : l.length ≤ 100000) :
    Calls Tryz.prog 25 #[.slice A l.length c, .int .i64 s] w fun e w' => ∃ u, e = .returned u ∧ Own w' w.heap.size 42 4 encVote u (ofL l s) ∧ Below w.heap.size w w' := by
  have hm := hr.1
  have hun := Tryz.underlying27
  have hbook := book_any l A c w hr
  go_enter Tryz.func25, Tryz.ntmps25
  go_wp2_with (first
    | (go_at_call 52; (with_reducible refine hbook.mono ?_); clear hbook; rintro e w1 ⟨m, b, M1, M2, rfl, hM1, hM2, hm1, hm2, hbk, hml, hbl, hB1⟩; have hbk' := Lib.hid hbk; clear hbk; have hma := MapIs_alloc hm1 (.cells #[.map (some M1), .map (some M2)] 74); have hmb := MapIs_alloc hm2 (.cells #[.map (some M1), .map (some M2)] 74); have hka : (w1.alloc (.cells #[.map (some M1), .map (some M2)] 74)).heap[w1.heap.size]? = some (.cells #[.map (some M1), .map (some M2)] 74 (0, 0)) := ha_at rfl)
    | (at_range; refine wp_range rfl rfl Tryz.underlying71 rfl hma (r := w1.heap.size + 1) (by simp) ?_; intro w2 hR hB2 hz2))
  go_frame
  have hNd : (m.map (·.1)).Nodup := by obtain ⟨_, _, _, _, _, _, h⟩ := hm1; exact h
  have hNd' := Lib.hid hNd
  have hB := below_call (hB1.alloc hB1.size (.cells #[.map (some M1), .map (some M2)] 74)) (by simp; have := hB1.size; omega) hB2
  have hmb2 := MapIs_below hmb hB2
  have hka2 := bl_own hB2 hka
  have hlr := hB1.size
  have hMr := MapIs_lt hm2
  clear hNd hma hmb hka hm1 hm2 hB2
  go_loopw [5, 7, 8] (fun u _u7 _u8 wr => ∃ (came : List Dty) (out : List Vote), RIs dtyv idv wr M1 (w1.heap.size + 1) m came ∧ MapIs dtyv Value.bool wr M2 b ∧ wr.heap[w1.heap.size]? = some (.cells #[.map (some M1), .map (some M2)] 74 (0, 0)) ∧ Own wr w.heap.size 42 4 encVote u out ∧ u.ownBlock ≠ some (w1.heap.size + 1) ∧ u.ownBlock ≠ some w1.heap.size ∧ Hid (OR s m b came out) ∧ Below w.heap.size w wr) (fun _ _ _ wr => wr.rangeLeft M1 (w1.heap.size + 1))
  case atStart => exact ⟨[], [], hR, hmb2, hka2, Own.nil _ _ _ _ _, by simp [Value.ownBlock], by simp [Value.ownBlock], Lib.hid (or_nil s m b), hB⟩
  case round =>
    obtain ⟨came, out, hR, hN, hK, hown, hob, hob2, hor, hB⟩ := hrel
    have hvb : ∀ j, u5.ownBlock = some j → w.heap.size ≤ j := fun j hj => (hown.base j hj).1
    have hol := or_len hor.out
    have hend := Lib.hid (fun hall o hp hs => or_end (o := o) hor.out hbk'.out hall hp hs)
    have hs1 := sorted_any out u5 w.heap.size wr hown (by omega)
    go_wp2_with (first
      | (at_next; refine wp_next rfl rfl rfl hR ?_ ?_; intro hall; rotate_left; intro d v w3 hcm hen; unfold dtyv idv at hen; have ho3 := hown.grown hcm.grown (.inr hob); have hN3 := MapIs_grown hN hcm.grown (fun e => by have e' := Option.some.inj e; omega); have hK3 := grown_own hcm.grown hK (fun e => by have e' := Option.some.inj e; omega); have hB3 := below_step hB hB.size hcm.grown (fun q e => by cases e; omega); obtain ⟨hy1, hy2, hy3, hy4⟩ := of_lay w3 (.cells #[.int .i64 d.frm, .int .i64 d.slot] 77) (.cells #[.int .u64 v.hi, .int .u64 v.lo] 35) #[.int .i64 d.frm, .int .i64 s, .int .u64 v.hi, .int .u64 v.lo] 42; have ho5 := ho3.below hy1; have hB5 := below_call hB3 hB3.size hy1; have hr5 := hcm.ris.below hy1; have hN4 := MapIs_below hN3 hy3; obtain ⟨k0, k1, _, _⟩ := blk2 (bl_own hy3 hK3); have heq := eql_dtyw d ⟨d.frm, s⟩; obtain ⟨q, hq⟩ : ∃ q, decide (d = (⟨d.frm, s⟩ : Dty)) = q := ⟨_, rfl⟩; rw [hq] at heq; have hq' := Lib.hid hq; clear hq; have hbv : mget b d = none ∨ mget b d = some true := (by cases hg : mget b d with | none => exact .inl rfl | some x => rw [hbk'.out.yes d x hg]; exact .inr rfl); have hlk0 := fun h => lookup_bad (q := false) hN4 d h; have hlk1 := fun h => lookup_bad (q := true) hN4 d h; rcases hbv with hg | hg; (have hlk := hlk0 (by rw [hg]; rfl); clear hlk0 hlk1; cases q); rotate_left; rotate_left; (have hlk := hlk1 (by rw [hg]; rfl); clear hlk0 hlk1; cases q); rotate_left; rotate_left)
      | (go_at_call 53; (with_reducible refine hs1.mono ?_); clear hs1; rintro e w3 ⟨rfl, o, ho3, hp, hso, hg3⟩; have hp' := Lib.hid (And.intro hp hso); clear hp hso)
      | (at_builtin; refine wp_append1 rfl rfl hun infoV rfl (by decide) encVote_len encVote_one rfl ho5 (g := w3.heap.size + 1 + 1) (c := 1) rfl (y := ⟨d.frm, s, v⟩) hy2 rfl (by omega) (by unfold maxLen; omega) hB5.size ?_; intro v' w5 ho6 hg6 hat6))
    · go_ret
      exact ⟨_, rfl, by rw [← hend.out hall.out o hp'.out.1 hp'.out.2]; exact ho3, below_step hB hB.size hg3 hvb⟩
    · go_roundw
      case rel => exact ⟨d :: came, out, (hcm.ris.below hy3).1, hN4, bl_own hy3 hK3, ho3.below hy3, hob, hob2, Lib.hid (or_skip hor.out hcm.mem hcm.fresh (fun hs => absurd (show d = ⟨d.frm, s⟩ by rw [← hs]) (of_decide_eq_false hq'.out))), below_call hB3 hB3.size hy3⟩
      case measure => rw [(hcm.ris.below hy3).2]; exact hcm.less
    · have hs : d.slot = s := by
        have h := of_decide_eq_true hq'.out
        exact congrArg Dty.slot h
      have hne : some (w1.heap.size + 1) ≠ u5.ownBlock := fun e => hob e.symm
      have hne2 : some w1.heap.size ≠ u5.ownBlock := fun e => hob2 e.symm
      have hrl := hcm.ris.lt
      have hys := hy1.size
      have hob' : v'.ownBlock ≠ some (w1.heap.size + 1) := by
        rcases hat6 with h | h
        · rw [h]; exact hob
        · rw [h]; intro e; have e' := Option.some.inj e; omega
      have hob2' : v'.ownBlock ≠ some w1.heap.size := by
        rcases hat6 with h | h
        · rw [h]; exact hob2
        · rw [h]; intro e; have e' := Option.some.inj e; omega
      have hN5 := MapIs_below hN3 hy1
      have hr6 := hr5.1.grown hg6 (fun e => own_ne_map ho5 hr5.1.map e.symm) hne
      go_roundw
      case rel => exact ⟨d :: came, out ++ [⟨d.frm, s, v⟩], hr6.1, MapIs_grown hN5 hg6 (fun e => own_ne_map ho5 hN5 e.symm), grown_own hg6 (bl_own hy1 hK3) hne2, ho6, hob', hob2', Lib.hid (or_take hor.out hNd'.out hcm.mem hcm.fresh hs hg), below_step hB5 hB5.size hg6 hvb⟩
      case measure => rw [hr6.2, hr5.2]; exact hcm.less
    · go_roundw
      case rel => exact ⟨d :: came, out, (hcm.ris.below hy3).1, hN4, bl_own hy3 hK3, ho3.below hy3, hob, hob2, Lib.hid (or_skip hor.out hcm.mem hcm.fresh (fun _ => by rw [hg]; simp)), below_call hB3 hB3.size hy3⟩
      case measure => rw [(hcm.ris.below hy3).2]; exact hcm.less
    · go_roundw
      case rel => exact ⟨d :: came, out, (hcm.ris.below hy3).1, hN4, bl_own hy3 hK3, ho3.below hy3, hob, hob2, Lib.hid (or_skip hor.out hcm.mem hcm.fresh (fun _ => by rw [hg]; simp)), below_call hB3 hB3.size hy3⟩
      case measure => rw [(hcm.ris.below hy3).2]; exact hcm.less
end Go.Proofs.YtaohkcdfjjiggaaGreat
/-! votes.Last: the plain law of its loops. -/
namespace Go.Proofs.YtaohkcdfjjiggaaGreat
/-- What has been told of the duties that came. -/
structure LR (u : Int) (m : List (Dty × ID)) (came : List Dty) (t : List (Int × Vote)) : Prop where
  sub : ∀ d ∈ came, d ∈ m.map (·.1)
  nd : came.Nodup
  is : ∀ f v, mget t f = some v → v.frm = f ∧ v.slot ≤ u ∧ mget m (dty v) = some v.head
  most : ∀ d ∈ came, d.slot ≤ u → ∃ v, mget t d.frm = some v ∧ d.slot ≤ v.slot
  len : t.length ≤ came.length
theorem lr_nil (u : Int) (m : List (Dty × ID)) : LR u m [] [] := ⟨by simp, List.nodup_nil, by simp [mget], by simp, Nat.le_refl _⟩
theorem lr_len {u : Int} {m : List (Dty × ID)} {came : List Dty} {t : List (Int × Vote)} (h : LR u m came t) : t.length ≤ m.length := by
  have := nodup_sub_len h.nd h.sub
  rw [List.length_map] at this
  exact Nat.le_trans h.len this
theorem mput_len2 {κ ν : Type} [DecidableEq κ] (m : List (κ × ν)) (x : κ) (v : ν) : (mput m x v).length ≤ m.length + 1 := by
  unfold mput
  split <;> simp
theorem lr_skip {u : Int} {m : List (Dty × ID)} {came : List Dty} {t : List (Int × Vote)} (h : LR u m came t) {d : Dty} {i : ID} (hd : (d, i) ∈ m) (hn : d ∉ came) (hs : d.slot ≤ u → ∃ v, mget t d.frm = some v ∧ d.slot ≤ v.slot) : LR u m (d :: came) t := by
  refine ⟨fun x hx => ?_, List.nodup_cons.2 ⟨hn, h.nd⟩, h.is, fun x hx hu => ?_, Nat.le_succ_of_le h.len⟩
  · rcases List.mem_cons.1 hx with rfl | hx
    · exact List.mem_map_of_mem hd
    · exact h.sub x hx
  · rcases List.mem_cons.1 hx with rfl | hx
    · exact hs hu
    · exact h.most x hx hu
theorem lr_put {u : Int} {m : List (Dty × ID)} (hm : (m.map (·.1)).Nodup) {came : List Dty} {t : List (Int × Vote)} (h : LR u m came t) {d : Dty} {i : ID} (hd : (d, i) ∈ m) (hn : d ∉ came) (hu : d.slot ≤ u) (hs : ∀ v, mget t d.frm = some v → v.slot < d.slot) : LR u m (d :: came) (mput t d.frm ⟨d.frm, d.slot, i⟩) := by
  refine ⟨fun x hx => ?_, List.nodup_cons.2 ⟨hn, h.nd⟩, fun f v hv => ?_, fun x hx hxu => ?_, Nat.le_trans (mput_len2 _ _ _) (Nat.succ_le_succ h.len)⟩
  · rcases List.mem_cons.1 hx with rfl | hx
    · exact List.mem_map_of_mem hd
    · exact h.sub x hx
  · rw [mget_mput] at hv
    split at hv
    · rename_i e
      cases hv
      exact ⟨e, hu, mem_mget hm hd⟩
    · exact h.is f v hv
  · rw [mget_mput]
    split
    · rename_i e
      refine ⟨_, rfl, ?_⟩
      rcases List.mem_cons.1 hx with rfl | hx
      · exact Int.le_refl _
      · obtain ⟨v, hv, hle⟩ := h.most x hx hxu
        rw [← e] at hv
        have := hs v hv
        show x.slot ≤ d.slot
        omega
    · rename_i e
      rcases List.mem_cons.1 hx with rfl | hx
      · exact absurd rfl e
      · exact h.most x hx hxu
/-- Who is double has been taken out. -/
structure LD (u : Int) (b : List (Dty × Bool)) (t : List (Int × Vote)) (came : List Dty) (t2 : List (Int × Vote)) : Prop where
  gone : ∀ d ∈ came, d.slot ≤ u → mget t2 d.frm = none
  from_ : ∀ f v, mget t2 f = some v → mget t f = some v
  stay : ∀ f v, mget t f = some v → (∀ d ∈ b.map (·.1), d.slot ≤ u → d.frm ≠ f) → mget t2 f = some v
  len : t2.length ≤ t.length
theorem ld_nil (u : Int) (b : List (Dty × Bool)) (t : List (Int × Vote)) : LD u b t [] t := ⟨by simp, fun _ _ h => h, fun _ _ h _ => h, Nat.le_refl _⟩
theorem ld_skip {u : Int} {b : List (Dty × Bool)} {t : List (Int × Vote)} {came : List Dty} {t2 : List (Int × Vote)} (h : LD u b t came t2) {d : Dty} (hd : ¬ d.slot ≤ u) : LD u b t (d :: came) t2 := by
  refine ⟨fun x hx hu => ?_, h.from_, h.stay, h.len⟩
  rcases List.mem_cons.1 hx with rfl | hx
  · exact absurd hu hd
  · exact h.gone x hx hu
theorem ld_take {u : Int} {b : List (Dty × Bool)} {t : List (Int × Vote)} {came : List Dty} {t2 : List (Int × Vote)} (h : LD u b t came t2) {d : Dty} {x : Bool} (hd : (d, x) ∈ b) (hu : d.slot ≤ u) : LD u b t (d :: came) (mdel t2 d.frm) := by
  refine ⟨fun x hx hxu => ?_, fun f v hv => ?_, fun f v hv hno => ?_, Nat.le_trans (List.length_filter_le _ _) h.len⟩
  · rw [mget_mdel]
    split
    · rfl
    · rename_i e
      rcases List.mem_cons.1 hx with rfl | hx
      · exact absurd rfl e
      · exact h.gone x hx hxu
  · rw [mget_mdel] at hv
    split at hv
    · cases hv
    · exact h.from_ f v hv
  · rw [mget_mdel, if_neg (hno d (List.mem_map_of_mem hd) hu)]
    exact h.stay f v hv hno
theorem last_end {l : List Vote} {u : Int} {m : List (Dty × ID)} {b : List (Dty × Bool)} {came came2 : List Dty} {t t2 : List (Int × Vote)} {ys o : List Vote} (hb : Book l m b) (h : LR u m came t) (hall : ∀ p ∈ m, p.1 ∈ came) (h2 : LD u b t came2 t2) (hall2 : ∀ p ∈ b, p.1 ∈ came2)
    (hn : (t2.map (·.1)).Nodup) (hy : ys.Perm (t2.map (·.2))) (hp : o.Perm ys) (hs : o.Pairwise (fun x y => x.frm ≤ y.frm)) : o = lastL l u := by
  have hpo := hp.trans hy
  have hfrm : ∀ p ∈ t2, p.2.frm = p.1 := fun p hp => (h.is _ _ (h2.from_ _ _ (mem_mget hn (show (p.1, p.2) ∈ t2 from hp)))).1
  have hmem : ∀ v, v ∈ o ↔ mget t2 v.frm = some v := fun v => by
    rw [hpo.mem_iff]
    constructor
    · intro hv
      obtain ⟨p, hp, rfl⟩ := List.mem_map.1 hv
      rw [hfrm p hp]
      exact mem_mget hn hp
    · intro hv
      exact List.mem_map.2 ⟨_, mgot_mem hv, rfl⟩
  have hmm : (t2.map (·.2)).map (·.frm) = t2.map (·.1) := by
    rw [List.map_map]
    exact List.map_congr_left fun p hp => hfrm p hp
  have hnd : (o.map (·.frm)).Nodup := by
    refine (hpo.map (·.frm)).nodup_iff.2 ?_
    rw [hmm]
    exact hn
  have hthere : ∀ f v, mget t f = some v → v ∈ l ∧ v.frm = f ∧ v.slot ≤ u := fun f v hv => by
    obtain ⟨h1, h2, h3⟩ := h.is f v hv
    exact ⟨hb.there _ _ h3, h1, h2⟩
  have hcame : ∀ y ∈ l, dty y ∈ came := fun y hy => by
    obtain ⟨i, hi⟩ := Option.isSome_iff_exists.1 (hb.all y hy)
    exact hall _ (mgot_mem hi)
  have hbad : ∀ d : Dty, d ∈ b.map (·.1) ↔ Dbl l d.slot d.frm := fun d => by
    rw [← hb.bad d]
    unfold mget
    rw [Option.isSome_map, List.find?_isSome]
    constructor
    · intro hd
      obtain ⟨p, hp, e⟩ := List.mem_map.1 hd
      exact ⟨p, hp, by simpa using e⟩
    · rintro ⟨p, hp, e⟩
      exact List.mem_map.2 ⟨p, hp, by simpa using e⟩
  refine lastL_eq ⟨sortedV_rises hs hnd, fun v => ?_⟩
  rw [hmem]
  unfold InLast
  constructor
  · intro hv
    have ht := h2.from_ _ _ hv
    obtain ⟨h1, _, h3⟩ := hthere _ _ ht
    refine ⟨h1, h3, fun y hy hf hu => ?_, fun y hy hf hu hd => ?_⟩
    · obtain ⟨v', hv', hle⟩ := h.most _ (hcame y hy) hu
      rw [show (dty y).frm = v.frm from hf, ht] at hv'
      cases hv'
      exact hle
    · obtain ⟨p, hp, e⟩ := List.mem_map.1 ((hbad ⟨v.frm, y.slot⟩).2 hd)
      have := h2.gone p.1 (hall2 p hp) (by rw [e]; exact hu)
      rw [e] at this
      rw [show mget t2 v.frm = none from this] at hv
      cases hv
  · rintro ⟨h1, h3, h4, h5⟩
    obtain ⟨v', hv', hle⟩ := h.most _ (hcame v h1) h3
    obtain ⟨g1, g2, g3⟩ := hthere _ _ hv'
    have hle2 := h4 v' g1 g2 g3
    have hsl : v.slot = v'.slot := by
      have : (dty v).slot = v.slot := rfl
      omega
    have : v = v' := dbl_one h1 g1 g2.symm hsl (h5 v h1 rfl h3)
    subst this
    refine h2.stay _ _ hv' fun d hd hu e => ?_
    have hdb := (hbad d).1 hd
    obtain ⟨y, hy, hf, hsy⟩ := dbl_mem hdb
    refine h5 y hy (hf.trans e) (by omega) ?_
    rw [hsy]
    rw [← show d.frm = v.frm from e]
    exact hdb
end Go.Proofs.YtaohkcdfjjiggaaGreat
/-! maps.Values's iterator over a map of votes, and slices.AppendSeq over it. -/
namespace Go.Proofs.YtaohkcdfjjiggaaGreat
open Go.RowKit Go.Shelf Go.ChangeMaps Go.MapKept
section
variable {κ ν : Type} [DecidableEq κ] {ek : κ → Value} {ev : ν → Value} {F : Fence} {n : Nat} {P : Program} {ops : Array Oper} {rest : List Oper} {o : Oper} {a : Act} {Q : Exit → Act → World → Prop}
theorem wpi_range (hg : o.guard = none) {mo : Operand} {MT kt et : TypeId} (hop : o.op = Op.range MT mo) (ht : P.underlying MT = some (.map kt et)) {w : World} {B : Nat} (hm : a.eval mo = .map (some B)) {m : List (κ × ν)} (hM : MapIs ek ev w B m) {r : Nat} (hr : w.heap.size = r)
    (hK : ∀ w', RIs ek ev w' B r m [] → Below w.heap.size w w' → w'.heap.size = w.heap.size + 1 → wpListIn F n P ops Q rest (a.put o.dst (.pointer (some ⟨r, 0, none⟩))) w') : wpListIn F n P ops Q (o :: rest) a w := by
  subst hr
  refine wpListIn_plain hg fun K' hK' => ?_
  obtain ⟨w', hrun, r1, r2, r3⟩ := range_run ht hM
  unfold Oper.wpIn
  refine ⟨by simp [Oper.about, hop], ?_⟩
  rw [Oper.semAt_plain F _ _ (by rw [hop]; intro c hc'; cases hc')]
  simp [execOp, hop, hm, hrun, Result.andThen]
  exact hK' _ _ (hK w' r1 r2 r3)
theorem wpi_next (hg : o.guard = none) {it : Operand} (hop : o.op = Op.next it false) {w : World} {B r : Nat} {m : List (κ × ν)} {came : List κ} (hit : a.eval it = .pointer (some ⟨r, 0, none⟩)) (h : RIs ek ev w B r m came)
    (hDone : Hid (∀ p ∈ m, p.1 ∈ came) → wpListIn F n P ops Q rest (a.put o.dst (.tuple #[.bool false])) w)
    (hMore : ∀ (x : κ) (v : ν) (w' : World), Came ek ev w w' B r m came x v → (Instr.entry (.pointer (some ⟨r, 0, none⟩))).run P w' = .ok (.tuple #[ek x, ev v]) w' → wpListIn F n P ops Q rest (a.put o.dst (.tuple #[.bool true, ek x, ev v])) w') : wpListIn F n P ops Q (o :: rest) a w := by
  refine wpListIn_plain hg fun K' hK' => ?_
  unfold Oper.wpIn
  refine ⟨by simp [Oper.about, hop], ?_⟩
  rw [Oper.semAt_plain F _ _ (by rw [hop]; intro c hc'; cases hc')]
  rcases next_run (P := P) h o.type with ⟨h0, hrun⟩ | ⟨x, v, w', h1, h2, hrun, h3, h4, h5, h6, h7⟩
  · simp [execOp, hop, hit, hrun, Result.andThen]
    exact hK' _ _ (hDone (Lib.hid h0))
  · simp [execOp, hop, hit, hrun, Result.andThen]
    exact hK' _ _ (hMore x v w' ⟨h1, h2, h3, h4, h5, h6⟩ h7)
theorem RIs.of_walks {w w' : World} {B r : Nat} {m : List (κ × ν)} {came : List κ} (h : RIs ek ev w B r m came) (hk : KeepsWalks w w') : RIs ek ev w' B r m came ∧ w'.rangeLeft B r = w.rangeLeft B r := by
  have h' := h
  obtain ⟨es, clk, since, seen, c0, hb, _, _, _, _, hr, _⟩ := h
  exact h'.same ((hk.same B _ hb rfl).trans hb.symm) ((hk.same r _ hr rfl).trans hr.symm)
/-- What has come of a map. -/
def PartM (m : List (κ × ν)) (came : List κ) (ys : List ν) : Prop := ∃ ps : List (κ × ν), came = ps.map (·.1) ∧ ys = ps.reverse.map (·.2) ∧ (∀ p ∈ ps, p ∈ m) ∧ (ps.map (·.1)).Nodup
omit [DecidableEq κ] in
theorem part_nil (m : List (κ × ν)) : PartM m [] [] := ⟨[], rfl, rfl, by simp, List.nodup_nil⟩
omit [DecidableEq κ] in
theorem part_step {m : List (κ × ν)} {came : List κ} {ys : List ν} (h : PartM m came ys) {x : κ} {v : ν} (hm : (x, v) ∈ m) (hx : x ∉ came) : PartM m (x :: came) (ys ++ [v]) := by
  obtain ⟨ps, rfl, rfl, h3, h4⟩ := h
  refine ⟨(x, v) :: ps, rfl, by simp, fun p hp => ?_, List.nodup_cons.2 ⟨hx, h4⟩⟩
  rcases List.mem_cons.1 hp with rfl | hp
  · exact hm
  · exact h3 p hp
theorem part_lt {m : List (κ × ν)} {came : List κ} {ys : List ν} (h : PartM m came ys) {x : κ} {v : ν} (hm : (x, v) ∈ m) (hx : x ∉ came) : ys.length < m.length := by
  obtain ⟨ps, rfl, rfl, h3, h4⟩ := h
  have := nodup_sub_len (l := x :: ps.map (·.1)) (m := m.map (·.1)) (List.nodup_cons.2 ⟨hx, h4⟩) (fun y hy => by
    rcases List.mem_cons.1 hy with rfl | hy
    · exact List.mem_map_of_mem hm
    · obtain ⟨p, hp, rfl⟩ := List.mem_map.1 hy
      exact List.mem_map_of_mem (h3 p hp))
  simp at this ⊢
  omega
theorem nodup_of_map {α β : Type} (f : α → β) : ∀ {l : List α}, (l.map f).Nodup → l.Nodup
  | [], _ => List.nodup_nil
  | a :: l, h => by
    simp only [List.map_cons, List.nodup_cons] at h
    exact List.nodup_cons.2 ⟨fun ha => h.1 (List.mem_map_of_mem ha), nodup_of_map f h.2⟩
omit [DecidableEq κ] in
theorem key_inj {m : List (κ × ν)} (hm : (m.map (·.1)).Nodup) {p q : κ × ν} (hp : p ∈ m) (hq : q ∈ m) (h : p.1 = q.1) : p = q := by
  obtain ⟨i, hi, rfl⟩ := List.getElem_of_mem hp
  obtain ⟨j, hj, rfl⟩ := List.getElem_of_mem hq
  have : i = j := (List.getElem?_inj (by simpa using hi) hm).1 (by simp [hi, hj, h])
  subst this
  rfl
omit [DecidableEq κ] in
theorem part_all {m : List (κ × ν)} (hm : (m.map (·.1)).Nodup) {came : List κ} {ys : List ν} (h : PartM m came ys) (hall : ∀ p ∈ m, p.1 ∈ came) : ys.Perm (m.map (·.2)) := by
  obtain ⟨ps, rfl, rfl, h3, h4⟩ := h
  have : ps.Perm m := (List.perm_ext_iff_of_nodup (nodup_of_map _ h4) (nodup_of_map _ hm)).2 fun p => ⟨h3 p, fun hp => by
    obtain ⟨q, hq, e⟩ := List.mem_map.1 (hall p hp)
    rw [← key_inj hm (h3 q hq) hp e]; exact hq⟩
  exact ((List.reverse_perm ps).trans this).map _
end
theorem gb_none {w w' : World} (h : Below w.heap.size w w') (row : Option Nat) : w.grownBy w' row := ⟨h.os, h.tape, h.output, h.size, fun k hk _ => h.block k hk⟩
theorem ris_walk {κ ν : Type} [DecidableEq κ] {ek : κ → Value} {ev : ν → Value} {w : World} {B r : Nat} {m : List (κ × ν)} {came : List κ} (h : RIs ek ev w B r m came) : ∃ o : Obj, w.heap[r]? = some o ∧ o.isWalk = true := by
  obtain ⟨es, clk, since, seen, c0, hb, _, _, _, _, hr, _⟩ := h
  exact ⟨_, hr, rfl⟩
section
variable {F : Fence} {n : Nat} {P : Program} {ops : Array Oper} {rest : List Oper} {o : Oper} {a : Act} {Q : Exit → Act → World → Prop} {α : Type}
theorem wpi_append1 {enc : α → List Value} {k base : Nat} {w : World} (hgd : o.guard = none) {s x : Operand} {t e : TypeId} (ho : o.op = .call { callee := .builtin .append, args := #[s, x], argTypes := #[t, t] })
    (ht : P.underlying t = some (.slice e)) {z : Value} {bytes : Nat} (hinfo : (P.info? e).map (fun i => (i.zero, i.size, i.bytes)) = some (some z, k, bytes)) (hz : z.cells.size = k) (hk0 : 0 < k) (hk : ∀ x, (enc x).length = k) (h1 : ∀ x, ∀ u ∈ enc x, u.oneCell' = true)
    {v : Value} {xs : List α} (hs : a.eval s = v) (hown : Own w base e k enc v xs) {g : Nat} {c : Nat} (hx : a.eval x = .slice (some ⟨g, 0, none⟩) 1 c) {y : α} {cs : Array Value} {T : TypeId} (hg : w.heap[g]? = some (.cells cs T (0, 0))) (hcs : cs = (enc y).toArray)
    (hb : (xs.length + 1) * bytes ≤ 140737488355328) (hl : xs.length + 1 ≤ maxLen) (hbase : base ≤ w.heap.size)
    (h : ∀ v' w', Own w' base e k enc v' (xs ++ [y]) → w.grownBy w' v.ownBlock → wpListIn F n P ops Q rest (a.put o.dst v') w') : wpListIn F n P ops Q (o :: rest) a w := by
  obtain ⟨i0, hi, hz0, hz1, hz2⟩ := info_parts hinfo
  subst hcs
  refine wpListIn_append_own w hgd s x t ho base e i0 z k bytes ht hi hz0 hz1 hz2 hz hk0 v xs.length _ hs hown ⟨g, 0, none⟩ 1 c (enc y) hx (by rw [hk]; omega) (fun j u hu => ?_) (h1 y) hl hb hbase (fun v' w' h2 h3 _ => h v' w' ?_ h3)
  · have e1 : (⟨g, 0, none⟩ : Addr).add j = ⟨g, j, none⟩ := by unfold Addr.add; split <;> simp_all
    rw [e1, blk_cell hg]
    simpa using hu
  · show w'.ownsRow _ _ _ _ _ _
    rw [List.length_append, List.flatMap_append]
    simpa using h2
end
def apAssign : Code := (Code.region 2 #[{ dst := some 5, op := Op.alloc 42, type := 0, pos := "iter.go:51", after := #[], guard := none }, { dst := none, op := Op.store 42 (Operand.tmp 5) (Operand.tmp 7), type := 0, pos := "iter.go:51", after := #[{ on := 0, ground := Ground.data }, { on := 0, ground := Ground.phase }], guard := none }] false)
def apBody : Code := (Code.block 1 (Code.region 3 #[{ dst := some 8, op := Op.load 27 (Operand.tmp 2), type := 27, pos := "iter.go:52", after := #[], guard := none }, { dst := some 9, op := Op.load 42 (Operand.tmp 5), type := 42, pos := "iter.go:52", after := #[], guard := none }, { dst := some 10, op := Op.buildSlice 27 1 #[(0, Operand.tmp 9)], type := 27, pos := "iter.go:52", after := #[{ on := 1, ground := Ground.data }], guard := none }, { dst := some 11, op := Op.call { callee := Callee.builtin Builtin.append, args := #[Operand.tmp 8, Operand.tmp 10], argTypes := #[27, 27] }, type := 27, pos := "iter.go:52", after := #[{ on := 0, ground := Ground.data }, { on := 2, ground := Ground.data }], guard := none }, { dst := none, op := Op.store 27 (Operand.tmp 2) (Operand.tmp 11), type := 0, pos := "iter.go:52", after := #[{ on := 3, ground := Ground.data }, { on := 3, ground := Ground.chain }, { on := 0, ground := Ground.phase }, { on := 1, ground := Ground.phase }, { on := 2, ground := Ground.phase }, { on := 3, ground := Ground.phase }], guard := none }] false))
def apRec (fn : FuncId) (s0 sv : Value) (Bs D : Nat) (st : LoopState) (pend : Option Code) : Loop :=
  { state := st, pending := pend, fn, tmps := #[s0, sv, .pointer (some ⟨Bs, 0, none⟩), undef, .slice none 0 0, undef, sv, undef, undef, undef, undef, undef, undef], params := #[7], assign := apAssign, body := apBody, defers := D }
/-- Between two rounds. -/
structure ApAt (base : Nat) (w0 : World) (fn : FuncId) (s0 sv : Value) (Bs l D : Nat) (ss : List Vote) (W : World) : Prop where
  box : ∃ v, W.heap[Bs]? = some (.cells #[v] 27 (0, 0)) ∧ Own W base 42 4 encVote v ss
  L : W.heap[l]? = some (.loop (apRec fn s0 sv Bs D .ready none))
  K : W.heap[D]? = some (.deferred (some []))
  below : Below base w0 W
theorem own_ne {W : World} {base : Nat} {v : Value} {ss : List Vote} (h : Own W base 42 4 encVote v ss) {j : Nat} {o : Obj} (hj : W.heap[j]? = some o) (hno : ∀ cur, o ≠ .cells cur 42 (0, 0)) : v.ownBlock = none ∨ v.ownBlock ≠ some j := ownsRow_ne_a h hj hno
theorem own_ne2 {W : World} {base : Nat} {v : Value} {ss : List Vote} (h : Own W base 42 4 encVote v ss) {j : Nat} {o : Obj} (hj : W.heap[j]? = some o) (hno : ∀ cur, o ≠ .cells cur 42 (0, 0)) : some j ≠ v.ownBlock := by
  rcases own_ne h hj hno with e | e
  · rw [e]; simp
  · exact fun e' => e e'.symm
theorem ap_abides (base : Nat) (w0 : World) (fn : FuncId) (s0 sv : Value) (Bs l D B : Nat) (hb0 : base ≤ w0.heap.size) (hB : w0.heap.size ≤ B) : AbidesFrom B (ApAt base w0 fn s0 sv Bs l D) := fun s W W' row h hg hrow => by
  have hrow' : ∀ r, row = some r → ∃ o : Obj, W.heap[r]? = some o ∧ o.isWalk = true := fun r e => (hrow r e).2
  obtain ⟨v, hv, hr⟩ := h.box
  exact ⟨⟨v, (grownBy_keeps hg hrow' hv rfl).trans hv, ownsRow_abides_a hr hg hrow'⟩, (grownBy_keeps hg hrow' h.L rfl).trans h.L, (grownBy_keeps hg hrow' h.K rfl).trans h.K,
    h.below.grown hg (Nat.le_trans hb0 h.below.size) (fun k e => Nat.le_trans hb0 (Nat.le_trans hB (hrow k e).1))⟩
theorem vlay (w : World) (x : Vote) : Below w.heap.size w (w.alloc (.cells #[.int .i64 x.frm, .int .i64 x.slot, .int .u64 x.head.hi, .int .u64 x.head.lo] 42)) ∧ (w.alloc (.cells #[.int .i64 x.frm, .int .i64 x.slot, .int .u64 x.head.hi, .int .u64 x.head.lo] 42)).heap[w.heap.size]? = some (.cells #[.int .i64 x.frm, .int .i64 x.slot, .int .u64 x.head.hi, .int .u64 x.head.lo] 42 (0, 0)) :=
  ⟨(Below.refl _ w).alloc (Nat.le_refl _) _, ha_at rfl⟩
set_option maxRecDepth 100000 in
set_option maxHeartbeats 2000000 in
theorem ap_yield (F : Fence) (m base : Nat) (w0 : World) (fn : FuncId) (hfn : F.fn fn) (s0 sv : Value) (Bs l D : Nat) (hBl : Bs ≠ l) (hDl : D ≠ l) (hDB : D ≠ Bs) (hb0 : base ≤ w0.heap.size) (h0B : w0.heap.size ≤ Bs) (h0l : w0.heap.size ≤ l)
    (ss : List Vote) (x : Vote) (W : World) (h : ApAt base w0 fn s0 sv Bs l D ss W) (hlen : ss.length < 100000) :
    YieldAt F m Tryz.prog l #[votev x] W fun e W' => e = .returned (.bool true) ∧ ApAt base w0 fn s0 sv Bs l D (ss ++ [x]) W' ∧ KeepsWalks W W' := by
  have hun := Tryz.underlying27
  obtain ⟨v, hv, hrow⟩ := h.box
  refine ⟨fn, #[s0, sv, .pointer (some ⟨Bs, 0, none⟩), undef, .slice none 0 0, undef, sv, votev x, undef, undef, undef, undef, undef], apAssign, apBody, by simpa [apRec] using run_yield (P := Tryz.prog) (args := #[votev x]) h.L rfl, roundIn_of_wpIn hfn ?_⟩
  have hl : l < W.heap.size := (Array.getElem?_eq_some_iff.1 h.L).1
  obtain ⟨W1, hW1⟩ : ∃ W1, W.alloc (.cells #[.int .i64 x.frm, .int .i64 x.slot, .int .u64 x.head.hi, .int .u64 x.head.lo] 42) = W1 := ⟨_, rfl⟩
  have hB1 : Below W.heap.size W W1 := by subst hW1; exact (Below.refl _ W).alloc (Nat.le_refl _) _
  have x1 : W1.heap[W.heap.size]? = some (.cells #[.int .i64 x.frm, .int .i64 x.slot, .int .u64 x.head.hi, .int .u64 x.head.lo] 42 (0, 0)) := by subst hW1; exact ha_at rfl
  have hk1 : KeepsWalks W W1 := by subst hW1; exact KeepsWalks.alloc _ _
  have hL1 := bl_own hB1 h.L
  have hK1 := bl_own hB1 h.K
  have hv1 := bl_own hB1 hv
  have hrow1 : Own W1 base 42 4 encVote v ss := hrow.below hB1
  have hBW := h.below.size
  have hbr := run_beginRound (P := Tryz.prog) hL1 rfl
  obtain ⟨W2, hW2⟩ : ∃ W2, W1.putObj l (.loop { apRec fn s0 sv Bs D .ready none with state := .busy }) = W2 := ⟨_, rfl⟩
  rw [hW2] at hbr
  have hg2 : W1.grownBy W2 (some l) := by rw [← hW2]; exact grownBy_putObj_a _ _ _
  have hk2 : KeepsWalks W1 W2 := by rw [← hW2]; exact KeepsWalks.putObj _ hL1 rfl
  have hv2 := grown_own hg2 hv1 (fun e => hBl (Option.some.inj e))
  have hK2 := grown_own hg2 hK1 (fun e => hDl (Option.some.inj e))
  have x2 := grown_own hg2 x1 (fun e => by have := Option.some.inj e; omega)
  have hL2 : W2.heap[l]? = some (.loop { apRec fn s0 sv Bs D .ready none with state := .busy }) := by rw [← hW2]; exact World.putObj_heap_same (by have := hB1.size; omega)
  have hrow2 : Own W2 base 42 4 encVote v ss := hrow1.grown hg2 (.inr (fun e => own_ne2 hrow1 hL1 (fun cur e => by cases e) e.symm))
  have hb1 : Below base w0 W1 := h.below.grown (gb_none hB1 none) (by omega) (fun k e => by cases e)
  have hb2 : Below base w0 W2 := hb1.grown hg2 (by have := hB1.size; omega) (fun k e => by cases e; omega)
  obtain ⟨hc2, hf2⟩ := cell_of_box_a hv2
  obtain ⟨d0, d1, d2, d3⟩ := blk4 x2
  have hs2 := hb2.size
  have hbw := vlay W2 x
  have hB3 := hbw.1
  have x3 := hbw.2
  have hk3 : KeepsWalks W2 (W2.alloc (.cells #[.int .i64 x.frm, .int .i64 x.slot, .int .u64 x.head.hi, .int .u64 x.head.lo] 42)) := KeepsWalks.alloc _ _
  have hrow3 := hrow2.below hB3
  have hv3 := bl_own hB3 hv2
  have hL3 := bl_own hB3 hL2
  have hK3 := bl_own hB3 hK2
  have hb3 := hb2.grown (gb_none hB3 none) (by omega) (fun k e => by cases e)
  have hs3 := hb3.size
  clear hbw
  clear hW2
  unfold apAssign votev
  gi_wp2_with gi_round_op_a
  unfold apBody
  gi_wp2_with (first
    | (gi_at_builtin; refine wpi_append1 rfl rfl hun infoV rfl (by decide) encVote_len encVote_one rfl hrow3 (g := W2.heap.size) (c := 1) rfl (y := x) x3 rfl (by omega) (by unfold maxLen; omega) (by omega) ?_; intro v' W4 hown' hg4
       obtain ⟨A', c', rfl, _⟩ := hown'.rd encVote_len
       have hv4 := grown_own hg4 hv3 (own_ne2 hrow3 hv3 (fun cur e => by cases e))
       obtain ⟨hc4, hf4⟩ := cell_of_box_a hv4
       go_frame)
    | gi_round_op_a)
  have hL4 := grown_own hg4 hL3 (own_ne2 hrow3 hL3 (fun cur e => by cases e))
  have hK4 := grown_own hg4 hK3 (own_ne2 hrow3 hK3 (fun cur e => by cases e))
  obtain ⟨u', hu'⟩ : ∃ u', Value.slice A' (ss.length + 1) c' = u' := ⟨_, rfl⟩
  rw [show (ss ++ [x]).length = ss.length + 1 by simp, hu'] at hown'
  rw [hu']
  obtain ⟨W5, hW5⟩ : ∃ W5, W4.setCell ⟨Bs, 0, none⟩ u' = W5 := ⟨_, rfl⟩
  rw [hW5]
  have hg5 : W4.grownBy W5 (some Bs) := by rw [← hW5]; exact grownBy_setCell0_a _ _ _
  have hv5 : W5.heap[Bs]? = some (.cells #[u'] 27 (0, 0)) := by rw [← hW5]; exact heap_setCell_box_a _ hv4
  have hL5 := grown_own hg5 hL4 (fun e => hBl (Option.some.inj e).symm)
  have hK5 := grown_own hg5 hK4 (fun e => hDB (Option.some.inj e))
  have hown5 : Own W5 base 42 4 encVote u' (ss ++ [x]) := hown'.grown hg5 (.inr (fun e => own_ne2 hown' hv4 (fun cur e => by cases e) e.symm))
  have hb4 : Below base w0 W4 := hb3.grown hg4 (by omega) (fun k e => (hrow3.base k e).1)
  have hb5 : Below base w0 W5 := hb4.grown hg5 (by have := hb4.size; omega) (fun k e => by cases e; omega)
  have hk5 : KeepsWalks W W5 := (((hk1.trans hk2).trans hk3).trans (KeepsWalks.of_grownBy hg4 (ownsRow_not_walk_a hrow3))).trans (by rw [← hW5]; exact KeepsWalks.setCell _ _ _)
  have hl5 : l < W5.heap.size := lt_of_block hL5
  clear hW5
  have hg6 := grownBy_putObj_a W5 l (.loop { { apRec fn s0 sv Bs D .ready none with state := .busy } with state := if (none : Option Code).isNone then .ready else .done, pending := none })
  exact ⟨_, _, run_endRound none hL5, rfl, ⟨⟨_, (World.putObj_heap_other hBl).trans hv5, hown5.grown hg6 (.inr (fun e => own_ne2 hown5 hL5 (fun cur e => by cases e) e.symm))⟩, World.putObj_heap_same hl5, (World.putObj_heap_other hDl).trans hK5, hb5.grown hg6 (by have := hb5.size; omega) (fun k e => by cases e; omega)⟩, hk5.trans (KeepsWalks.putObj _ hL5 rfl)⟩
end Go.Proofs.YtaohkcdfjjiggaaGreat
/-! The walk of votes.Last. -/
namespace Go.Proofs.YtaohkcdfjjiggaaGreat
open Go.RowKit
theorem own_empty {w : World} {base g : Nat} (h : w.heap[g]? = some (.cells #[] 42 (0, 0))) (hb : base ≤ g) : Own w base 42 4 encVote (.slice (some ⟨g, 0, none⟩) 0 0) ([] : List Vote) :=
  ⟨by simp, .inr ⟨g, 0, #[], rfl, hb, h, Nat.le_refl _, by unfold maxLen; omega, rfl, rfl⟩⟩
theorem last_lay (w : World) (M1 M2 : Nat) : ∃ W, (((w.alloc (.cells #[.map (some M1), .map (some M2)] 74)).alloc (.map #[] 0)).alloc (.cells #[] 42)) = W ∧ Below w.heap.size w W ∧ W.heap[w.heap.size]? = some (.cells #[.map (some M1), .map (some M2)] 74 (0, 0)) ∧
    MapIs (Value.int .i64) votev W (w.heap.size + 1) [] ∧ W.heap[w.heap.size + 1 + 1]? = some (.cells #[] 42 (0, 0)) ∧ W.heap.size = w.heap.size + 1 + 1 + 1 :=
  ⟨_, rfl, (((Below.refl _ w).alloc (Nat.le_refl _) _).alloc (by simp) _).alloc (by simp; omega) _, ha_lt (ha_lt (ha_at rfl)), MapIs_alloc (MapIs_new _ _ (ha_at (by simp))) _, ha_at (by simp), by simp⟩
theorem dlay (w : World) (d : Dty) : Below w.heap.size w (w.alloc (.cells #[.int .i64 d.frm, .int .i64 d.slot] 77)) ∧ (w.alloc (.cells #[.int .i64 d.frm, .int .i64 d.slot] 77)).heap[w.heap.size]? = some (.cells #[.int .i64 d.frm, .int .i64 d.slot] 77 (0, 0)) :=
  ⟨(Below.refl _ w).alloc (Nat.le_refl _) _, ha_at rfl⟩
end Go.Proofs.YtaohkcdfjjiggaaGreat
