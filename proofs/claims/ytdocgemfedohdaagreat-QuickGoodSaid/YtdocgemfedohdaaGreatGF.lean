/- GF: several texts in one. -/
import Derived.Test.YtdocgemfedohdaaGreatGA
import Derived.Test.YtdocgemfedohdaaGreatShelf
import Derived.Lib.RowBridge
import Derived.Test.YtdocgemfedohdaaGreatGE
/-! Votes that nobody may have both (the plain law). -/
namespace Go.Proofs.YtdocgemfedohdaaGreat
structure Chk where
  epoch : Int
  root : ID
  deriving DecidableEq
structure Lnk where
  frm : Int
  src : Chk
  tgt : Chk
  deriving DecidableEq
def encLnk (x : Lnk) : List Value := [.int .i64 x.frm, .int .i64 x.src.epoch, .int .u64 x.src.root.hi, .int .u64 x.src.root.lo, .int .i64 x.tgt.epoch, .int .u64 x.tgt.root.hi, .int .u64 x.tgt.root.lo]
def lnkv (x : Lnk) : Value := .agg #[.int .i64 x.frm, .int .i64 x.src.epoch, .int .u64 x.src.root.hi, .int .u64 x.src.root.lo, .int .i64 x.tgt.epoch, .int .u64 x.tgt.root.hi, .int .u64 x.tgt.root.lo]
def Spans (a b : Lnk) : Prop := a.src.epoch < b.src.epoch ∧ b.tgt.epoch < a.tgt.epoch
def Pair (a b : Lnk) : Prop := a.frm = b.frm ∧ (Spans a b ∨ Spans b a ∨ (a ≠ b ∧ a.tgt.epoch = b.tgt.epoch))
instance (a b : Lnk) : Decidable (Spans a b) := by unfold Spans; exact inferInstance
instance (a b : Lnk) : Decidable (Pair a b) := by unfold Pair; exact inferInstance
theorem pair_symm {a b : Lnk} : Pair a b ↔ Pair b a := by
  unfold Pair
  constructor
  · rintro ⟨h, h1 | h1 | ⟨h1, h2⟩⟩
    · exact ⟨h.symm, .inr (.inl h1)⟩
    · exact ⟨h.symm, .inl h1⟩
    · exact ⟨h.symm, .inr (.inr ⟨fun e => h1 e.symm, h2.symm⟩)⟩
  · rintro ⟨h, h1 | h1 | ⟨h1, h2⟩⟩
    · exact ⟨h.symm, .inr (.inl h1)⟩
    · exact ⟨h.symm, .inl h1⟩
    · exact ⟨h.symm, .inr (.inr ⟨fun e => h1 e.symm, h2.symm⟩)⟩
theorem pair_irrefl (a : Lnk) : ¬ Pair a a := by
  rintro ⟨_, h1 | h1 | ⟨h1, _⟩⟩
  · unfold Spans at h1; omega
  · unfold Spans at h1; omega
  · exact h1 rfl
/-- f has two such. -/
def Guilt (v : List Lnk) (f : Int) : Prop := ∃ x ∈ v, ∃ y ∈ v, Pair x y ∧ x.frm = f
/-- The numbers rise. -/
def Rises : List Int → Prop
  | [] => True
  | x :: xs => (∀ y ∈ xs, x < y) ∧ Rises xs
def IsGuilty (v : List Lnk) (g : List Int) : Prop := Rises g ∧ ∀ f, f ∈ g ↔ Guilt v f
theorem rises_uniq : ∀ {g h : List Int}, Rises g → Rises h → (∀ f, f ∈ g ↔ f ∈ h) → g = h
  | [], [], _, _, _ => rfl
  | [], y :: ys, _, _, e => by have := (e y).2 (by simp); simp at this
  | x :: xs, [], _, _, e => by have := (e x).1 (by simp); simp at this
  | x :: xs, y :: ys, hg, hh, e => by
    have hxy : x = y := by
      have h1 := (e x).1 (by simp)
      have h2 := (e y).2 (by simp)
      simp only [List.mem_cons] at h1 h2
      rcases h1 with h1 | h1
      · exact h1
      · rcases h2 with h2 | h2
        · exact h2.symm
        · have := hh.1 x h1; have := hg.1 y h2; omega
    subst hxy
    congr 1
    refine rises_uniq hg.2 hh.2 (fun f => ?_)
    constructor
    · intro hf
      have := (e f).1 (by simp [hf])
      simp only [List.mem_cons] at this
      rcases this with h | h
      · subst h; have := hg.1 f hf; omega
      · exact h
    · intro hf
      have := (e f).2 (by simp [hf])
      simp only [List.mem_cons] at this
      rcases this with h | h
      · subst h; have := hh.1 f hf; omega
      · exact h
theorem guilty_uniq {v : List Lnk} {g h : List Int} (hg : IsGuilty v g) (hh : IsGuilty v h) : g = h := rises_uniq hg.1 hh.1 (fun f => (hg.2 f).trans (hh.2 f).symm)
/-- Who is found by looking back only. -/
theorem guilt_back (v : List Lnk) (f : Int) : Guilt v f ↔ ∃ i, ∃ h : i < v.length, (∃ x ∈ v.take i, Pair v[i] x) ∧ v[i].frm = f := by
  constructor
  · rintro ⟨x, hx, y, hy, hp, hf⟩
    obtain ⟨i, hi, rfl⟩ := List.getElem_of_mem hx
    obtain ⟨j, hj, rfl⟩ := List.getElem_of_mem hy
    rcases Nat.lt_trichotomy i j with h | h | h
    · exact ⟨j, hj, ⟨v[i], List.mem_take_iff_getElem.2 ⟨i, by omega, rfl⟩, pair_symm.1 hp⟩, by rw [← hf]; exact hp.1.symm⟩
    · subst h; exact absurd hp (pair_irrefl _)
    · exact ⟨i, hi, ⟨v[j], List.mem_take_iff_getElem.2 ⟨j, by omega, rfl⟩, hp⟩, hf⟩
  · rintro ⟨i, hi, ⟨x, hx, hp⟩, hf⟩
    exact ⟨v[i], List.getElem_mem hi, x, List.mem_of_mem_take hx, hp, hf⟩
theorem guilt_more {v : List Lnk} {a : Lnk} {f : Int} (h : Guilt v f) : Guilt (v ++ [a]) f := by
  obtain ⟨x, hx, y, hy, hp, hf⟩ := h
  exact ⟨x, by simp [hx], y, by simp [hy], hp, hf⟩
theorem guilt_new {v : List Lnk} {a : Lnk} {f : Int} (h : Guilt (v ++ [a]) f) : Guilt v f ∨ f = a.frm := by
  obtain ⟨x, hx, y, hy, hp, hf⟩ := h
  rw [List.mem_append, List.mem_singleton] at hx hy
  rcases hx with hx | rfl
  · rcases hy with hy | rfl
    · exact .inl ⟨x, hx, y, hy, hp, hf⟩
    · exact .inr (by rw [← hf]; exact hp.1)
  · exact .inr hf.symm
theorem guilt_twice {a : Lnk} {f : Int} : ¬ Guilt [a, a] f := by
  rintro ⟨x, hx, y, hy, hp, _⟩
  simp at hx hy
  subst hx
  subst hy
  exact pair_irrefl _ hp
/-- Only one's own votes count. -/
theorem guilt_own {v : List Lnk} {w f : Int} : Guilt (v.filter (fun x => decide (x.frm = w))) f ↔ Guilt v f ∧ f = w := by
  constructor
  · rintro ⟨x, hx, y, hy, hp, hf⟩
    simp only [List.mem_filter, decide_eq_true_eq] at hx hy
    exact ⟨⟨x, hx.1, y, hy.1, hp, hf⟩, by rw [← hf]; exact hx.2⟩
  · rintro ⟨⟨x, hx, y, hy, hp, hf⟩, rfl⟩
    refine ⟨x, ?_, y, ?_, hp, hf⟩
    · simp only [List.mem_filter, decide_eq_true_eq]; exact ⟨hx, hf⟩
    · simp only [List.mem_filter, decide_eq_true_eq]; exact ⟨hy, by rw [← hf]; exact hp.1.symm⟩
theorem own_one {v : List Lnk} {w : Int} {g n : List Int} (hg : IsGuilty v g) (hn : IsGuilty (v.filter (fun x => decide (x.frm = w))) n) : n = if w ∈ g then [w] else [] := by
  by_cases h : w ∈ g
  · rw [if_pos h]
    refine rises_uniq hn.1 ⟨by simp, trivial⟩ (fun f => ?_)
    rw [hn.2, guilt_own, List.mem_singleton, ← hg.2]
    constructor
    · exact fun h => h.2
    · rintro rfl; exact ⟨h, rfl⟩
  · rw [if_neg h]
    refine rises_uniq hn.1 trivial (fun f => ?_)
    rw [hn.2, guilt_own, ← hg.2]
    simp only [List.not_mem_nil, iff_false]
    rintro ⟨h1, rfl⟩
    exact h h1
/-- Who has but one vote is not guilty. -/
theorem own_two {v : List Lnk} {w : Int} (h : Guilt v w) : 1 < (v.filter (fun x => decide (x.frm = w))).length := by
  obtain ⟨x, hx, y, hy, hp, hf⟩ := (guilt_own (w := w) (f := w)).2 ⟨h, rfl⟩
  generalize v.filter (fun x => decide (x.frm = w)) = l at hx hy
  match l, hx, hy with
  | [], hx, _ => simp at hx
  | [a], hx, hy =>
    simp at hx hy
    subst hx
    subst hy
    exact absurd hp (pair_irrefl _)
  | a :: b :: r, _, _ => simp
/-! The insertion of one more into rising numbers, and what sorting and dropping doubles leaves. -/
theorem rises_le {g : List Int} (h : Rises g) : ∀ i j (hi : i < g.length) (hj : j < g.length), i < j → g[i] < g[j] := by
  induction g with
  | nil => intro i j hi; simp at hi
  | cons x xs ih =>
    intro i j hi hj hij
    cases j with
    | zero => omega
    | succ j =>
      cases i with
      | zero => exact h.1 _ (List.getElem_mem _)
      | succ i => exact ih h.2 i j (by simpa using hi) (by simpa using hj) (by omega)
theorem rises_of {g : List Int} (h : ∀ i (hi : i + 1 < g.length), g[i] < g[i + 1]) : Rises g := by
  induction g with
  | nil => trivial
  | cons x xs ih =>
    have hr : Rises xs := ih (fun i hi => by have := h (i + 1) (by simpa using hi); simpa using this)
    refine ⟨fun y hy => ?_, hr⟩
    obtain ⟨k, hk, rfl⟩ := List.getElem_of_mem hy
    have h0 := h 0 (by simp; omega)
    simp only [List.getElem_cons_zero, List.getElem_cons_succ] at h0
    cases k with
    | zero => exact h0
    | succ k =>
      have := rises_le hr 0 (k + 1) (by omega) hk (by omega)
      omega
end Go.Proofs.YtdocgemfedohdaaGreat
/-! slices.Sort and slices.Compact of ints, of a slice of the call's own. -/
namespace Go.Proofs.YtdocgemfedohdaaGreat
open Go.RowKit
theorem encI_flat (l : List Int) : l.flatMap encI = l.map (Value.int .i64) := by
  induction l with
  | nil => rfl
  | cons x l ih => simp [encI, ih]
theorem Own.block {α : Type} {w : World} {base : Nat} {e : TypeId} {k : Nat} {enc : α → List Value} {v : Value} {xs : List α} (h : Own w base e k enc v xs) :
    (v = .slice none 0 0 ∧ xs = []) ∨ ∃ g cap cur, v = .slice (some ⟨g, 0, none⟩) xs.length cap ∧ base ≤ g ∧ w.heap[g]? = some (.cells cur e (0, 0)) ∧ xs.length ≤ cap ∧ cap ≤ maxLen ∧ cur.size = cap * k ∧ cur.toList.take (xs.length * k) = xs.flatMap enc := by
  rcases h.2 with ⟨h1, h2⟩ | h2
  · exact .inl ⟨h1, List.eq_nil_of_length_eq_zero h2⟩
  · exact .inr h2
/-- The cells of an owned row of ints. -/
theorem Own.holdsI {w : World} {e : TypeId} {g : Nat} {cur : Array Value} {l : List Int} (hh : w.heap[g]? = some (.cells cur e (0, 0))) (ht : cur.toList.take (l.length * 1) = l.flatMap encI) :
    Sort.Holds (Value.int .i64) w g 0 l.toArray := by
  intro j hj
  have hj' : j < l.length := by simpa using hj
  refine ⟨?_, by simp [World.frozen?, hh]⟩
  rw [Nat.zero_add, blk_cell hh j]
  rw [encI_flat, Nat.mul_one] at ht
  have h1 : (cur.toList.take l.length)[j]? = some (.int .i64 l[j]) := by rw [ht]; simp [hj']
  rw [List.getElem?_take_of_lt hj'] at h1
  rw [getElem!_pos _ j hj]
  simpa using h1
theorem putRow_heap {w : World} {g : Nat} {cur : Array Value} {e : TypeId} (hh : w.heap[g]? = some (.cells cur e (0, 0))) (d : Array Int) (n : Nat) (os : Array Obj) :
    (Sort.grow (Sort.putRow (Value.int .i64) (Sort.ahead w n) g 0 d) os).heap[g]? = some (.cells (Sort.putCells (Value.int .i64) 0 d cur) e (0, 0)) := by
  have hlt := lt_of_block hh
  rw [Sort.heap_grow_old _ _ (by simpa using hlt)]
  simp [Sort.putRow, Sort.mapBlock, Array.getElem?_modify, hh, Sort.onCells]
theorem putRow_other {w : World} {g k : Nat} (hk : k < w.heap.size) (hne : k ≠ g) (d : Array Int) (n : Nat) (os : Array Obj) :
    (Sort.grow (Sort.putRow (Value.int .i64) (Sort.ahead w n) g 0 d) os).heap[k]? = w.heap[k]? := by
  rw [Sort.heap_grow_old _ _ (by simpa using hk)]
  simp [Sort.putRow, Sort.mapBlock, Array.getElem?_modify, Ne.symm hne]
theorem putCells_take {cur : Array Value} {d : List Int} (h : d.length ≤ cur.size) : (Sort.putCells (Value.int .i64) 0 d.toArray cur).toList.take d.length = d.map (Value.int .i64) := by
  apply List.ext_getElem?
  intro j
  rw [List.getElem?_take]
  by_cases hj : j < d.length
  · have hc : j < cur.size := by omega
    simp [Sort.putCells, hj, hc]
  · simp [hj]
/-- An owned row over which other ints are laid. -/
theorem Own.relaid {w : World} {base : Nat} {e : TypeId} {g cap : Nat} {cur : Array Value} (hb : base ≤ g) (hh : w.heap[g]? = some (.cells cur e (0, 0))) (hm : cap ≤ maxLen) (hs : cur.size = cap * 1) (d : List Int) (hd : d.length ≤ cap) (m : Nat) (hmd : m ≤ d.length) (n : Nat) (os : Array Obj) :
    Own (Sort.grow (Sort.putRow (Value.int .i64) (Sort.ahead w n) g 0 d.toArray) os) base e 1 encI (.slice (some ⟨g, 0, none⟩) m cap) (d.take m) := by
  have hml : (d.take m).length = m := by simp; omega
  refine ⟨by rw [encI_flat]; simp, .inr ⟨g, cap, _, by rw [hml], hb, putRow_heap hh _ n os, by omega, hm, by simp [Sort.putCells, hs], ?_⟩⟩
  have ht := putCells_take (cur := cur) (d := d) (by omega)
  rw [hml, encI_flat, Nat.mul_one, List.map_take, ← ht, List.take_take, Nat.min_eq_left hmd]
theorem grownBy_putRow {w : World} {g : Nat} (d : Array Int) (n : Nat) (os : Array Obj) : w.grownBy (Sort.grow (Sort.putRow (Value.int .i64) (Sort.ahead w n) g 0 d) os) (some g) :=
  ⟨rfl, rfl, rfl, by simp, fun k hk hne => putRow_other hk (fun e => hne (by rw [e])) d n os⟩
def isort (l : List Int) : List Int := l.mergeSort fun x y => decide (x ≤ y)
theorem isort_len (l : List Int) : (isort l).length = l.length := List.length_mergeSort _
theorem mem_isort {l : List Int} {x : Int} : x ∈ isort l ↔ x ∈ l := List.mem_mergeSort
theorem isort_le (l : List Int) : (isort l).Pairwise (· ≤ ·) := by
  have := List.pairwise_mergeSort (le := fun (x y : Int) => decide (x ≤ y)) (by intro a b c; simp; omega) (by intro a b; simp; omega) l
  exact this.imp (by simp)
theorem isort_perm (l : List Int) : (isort l).Perm l := List.mergeSort_perm _ _
end Go.Proofs.YtdocgemfedohdaaGreat
/-! Who is guilty, as numbers that rise (the plain law). -/
namespace Go.Proofs.YtdocgemfedohdaaGreat
theorem rises_snoc {l : List Int} {x : Int} (h : Rises l) (hx : ∀ y ∈ l, y < x) : Rises (l ++ [x]) := by
  induction l with
  | nil => exact ⟨by simp, trivial⟩
  | cons y l ih =>
    refine ⟨fun z hz => ?_, ih h.2 (fun z hz => hx z (by simp [hz]))⟩
    rcases List.mem_append.1 hz with hz | hz
    · exact h.1 z hz
    · simp only [List.mem_singleton] at hz; subst hz; exact hx y (by simp)
theorem compactUpTo_rises (d : Array Int) (n : Nat) (hs : ∀ i j, i ≤ j → j < n → d[i]! ≤ d[j]!) : ∀ m, m ≤ n → Rises (Lib.compactUpTo d m) ∧ ∀ x, x ∈ Lib.compactUpTo d m ↔ ∃ j, j < m ∧ d[j]! = x
  | 0, _ => ⟨by simp [Lib.compactUpTo, Rises], by simp [Lib.compactUpTo]⟩
  | m + 1, hm => by
    obtain ⟨h1, h2⟩ := compactUpTo_rises d n hs m (by omega)
    rw [Lib.compactUpTo_succ]
    by_cases hk : m = 0 ∨ d[m]! ≠ d[m - 1]!
    · have hkeep : Lib.keeps d m = true := by simpa [Lib.keeps] using hk
      rw [if_pos hkeep]
      refine ⟨rises_snoc h1 (fun y hy => ?_), fun x => ?_⟩
      · obtain ⟨j, hj, rfl⟩ := (h2 y).1 hy
        rcases hk with hk | hk
        · omega
        · have a := hs j (m - 1) (by omega) (by omega)
          have b := hs (m - 1) m (by omega) (by omega)
          omega
      · rw [List.mem_append, List.mem_singleton, h2]
        constructor
        · rintro (⟨j, hj, rfl⟩ | rfl)
          · exact ⟨j, by omega, rfl⟩
          · exact ⟨m, by omega, rfl⟩
        · rintro ⟨j, hj, rfl⟩
          rcases Nat.lt_or_ge j m with h | h
          · exact .inl ⟨j, h, rfl⟩
          · obtain rfl : j = m := by omega
            exact .inr rfl
    · have hkeep : Lib.keeps d m = false := by
        have := hk
        simp only [not_or, Classical.not_not] at this
        exact Lib.keeps_neg (by omega) this.2
      rw [hkeep]
      simp only [Bool.false_eq_true, if_false, List.append_nil]
      refine ⟨h1, fun x => ?_⟩
      rw [h2]
      constructor
      · rintro ⟨j, hj, rfl⟩; exact ⟨j, by omega, rfl⟩
      · rintro ⟨j, hj, rfl⟩
        rcases Nat.lt_or_ge j m with h | h
        · exact ⟨j, h, rfl⟩
        · obtain rfl : j = m := by omega
          simp only [not_or, Classical.not_not] at hk
          exact ⟨j - 1, by omega, hk.2.symm⟩
/-- Sorted, and each once. -/
def setup (l : List Int) : List Int := Lib.compact (isort l)
theorem setup_rises (l : List Int) : Rises (setup l) ∧ ∀ x, x ∈ setup l ↔ x ∈ l := by
  have hp := isort_le l
  have hs : ∀ i j, i ≤ j → j < (isort l).length → (isort l).toArray[i]! ≤ (isort l).toArray[j]! := by
    intro i j hij hj
    rcases Nat.lt_or_ge i j with h | h
    · rw [getElem!_pos _ i (by simp; omega), getElem!_pos _ j (by simpa using hj)]
      have := List.pairwise_iff_getElem.1 hp i j (by omega) hj h
      simpa using this
    · obtain rfl : i = j := by omega
      exact Int.le_refl _
  obtain ⟨h1, h2⟩ := compactUpTo_rises (isort l).toArray (isort l).length hs _ (Nat.le_refl _)
  refine ⟨h1, fun x => (h2 x).trans ?_⟩
  rw [← mem_isort (l := l), List.mem_iff_getElem]
  constructor
  · rintro ⟨j, hj, rfl⟩
    exact ⟨j, hj, by rw [getElem!_pos _ j (by simpa using hj)]; simp⟩
  · rintro ⟨j, hj, rfl⟩
    exact ⟨j, hj, by rw [getElem!_pos _ j (by simpa using hj)]; simp⟩
/-- Those that are found looking back: of the first k. -/
def backs (v : List Lnk) : Nat → List Int
  | 0 => []
  | k + 1 => backs v k ++ (match v[k]? with | some a => if (v.take k).any (fun b => decide (Pair a b)) then [a.frm] else [] | none => [])
theorem mem_backs {v : List Lnk} {f : Int} : ∀ k, k ≤ v.length → (f ∈ backs v k ↔ ∃ i, ∃ h : i < v.length, i < k ∧ (∃ x ∈ v.take i, Pair v[i] x) ∧ v[i].frm = f)
  | 0, _ => by simp [backs]
  | k + 1, hk => by
    have hlt : k < v.length := hk
    rw [backs, List.mem_append, mem_backs k (by omega), List.getElem?_eq_getElem hlt]
    simp only [List.any_eq_true, decide_eq_true_eq]
    constructor
    · rintro (⟨i, h, hi, hx⟩ | h)
      · exact ⟨i, h, by omega, hx⟩
      · by_cases hx : ∃ x ∈ v.take k, Pair v[k] x
        · rw [if_pos hx] at h
          simp only [List.mem_singleton] at h
          exact ⟨k, hlt, by omega, hx, h.symm⟩
        · rw [if_neg hx] at h; cases h
    · rintro ⟨i, h, hi, hx, hf⟩
      rcases Nat.lt_or_ge i k with h' | h'
      · exact .inl ⟨i, h, h', hx, hf⟩
      · obtain rfl : i = k := by omega
        exact .inr (by rw [if_pos hx]; simp [hf])
theorem backs_len (v : List Lnk) : ∀ k, (backs v k).length ≤ k
  | 0 => by simp [backs]
  | k + 1 => by
    have := backs_len v k
    rw [backs, List.length_append]
    cases v[k]? with
    | none => simp; omega
    | some a => simp only; split <;> simp <;> omega
/-- Who is guilty. -/
def guiltyL (v : List Lnk) : List Int := setup (backs v v.length)
theorem guiltyL_is (v : List Lnk) : IsGuilty v (guiltyL v) := by
  obtain ⟨h1, h2⟩ := setup_rises (backs v v.length)
  refine ⟨h1, fun f => (h2 f).trans ?_⟩
  rw [mem_backs _ (Nat.le_refl _), guilt_back]
  constructor
  · rintro ⟨i, h, _, hx⟩; exact ⟨i, h, hx⟩
  · rintro ⟨i, h, hx⟩; exact ⟨i, h, h, hx⟩
theorem guiltyL_len (v : List Lnk) : (guiltyL v).length ≤ v.length := by
  have h1 := backs_len v v.length
  have h2 := Lib.compact_length_le (isort (backs v v.length))
  rw [isort_len] at h2
  unfold guiltyL setup
  omega
theorem guiltyL_eq {v : List Lnk} {g : List Int} (h : IsGuilty v g) : g = guiltyL v := guilty_uniq h (guiltyL_is v)
end Go.Proofs.YtdocgemfedohdaaGreat
/-! Votes that count (the plain law). -/
namespace Go.Proofs.YtdocgemfedohdaaGreat
/-- f has two votes of slot s, of different heads. -/
def Dbl (l : List Vote) (s f : Int) : Prop := ∃ x ∈ l, ∃ y ∈ l, x.frm = f ∧ y.frm = f ∧ x.slot = s ∧ y.slot = s ∧ x.head ≠ y.head
instance instDbl (l : List Vote) (s f : Int) : Decidable (Dbl l s f) := by unfold Dbl; exact inferInstance
theorem dbl_mem {l : List Vote} {s f : Int} (h : Dbl l s f) : ∃ x ∈ l, x.frm = f ∧ x.slot = s := by
  obtain ⟨x, hx, _, _, h1, _, h2, _⟩ := h
  exact ⟨x, hx, h1, h2⟩
theorem dbl_mono {l m : List Vote} (h : ∀ x ∈ l, x ∈ m) {s f : Int} (hd : Dbl l s f) : Dbl m s f := by
  obtain ⟨x, hx, y, hy, r⟩ := hd
  exact ⟨x, h x hx, y, h y hy, r⟩
theorem dbl_congr {l m : List Vote} (h : ∀ x, x ∈ l ↔ x ∈ m) {s f : Int} : Dbl l s f ↔ Dbl m s f := ⟨dbl_mono fun x hx => (h x).1 hx, dbl_mono fun x hx => (h x).2 hx⟩
/-- Who are not double have one head a slot. -/
theorem dbl_one {l : List Vote} {x y : Vote} (hx : x ∈ l) (hy : y ∈ l) (hf : x.frm = y.frm) (hs : x.slot = y.slot) (h : ¬ Dbl l x.slot x.frm) : x = y := by
  have : x.head = y.head := Classical.byContradiction fun hne => h ⟨x, hx, y, hy, rfl, hf.symm, rfl, hs.symm, hne⟩
  obtain ⟨a, b, c⟩ := x
  obtain ⟨a', b', c'⟩ := y
  simp only at hf hs this
  subst hf hs this
  rfl
def RisesV (o : List Vote) : Prop := Rises (o.map (·.frm))
theorem risesV_uniq : ∀ {a b : List Vote}, RisesV a → RisesV b → (∀ v, v ∈ a ↔ v ∈ b) → a = b
  | [], [], _, _, _ => rfl
  | [], y :: ys, _, _, e => by have := (e y).2 (by simp); simp at this
  | x :: xs, [], _, _, e => by have := (e x).1 (by simp); simp at this
  | x :: xs, y :: ys, ha, hb, e => by
    have ha1 : ∀ z ∈ xs, x.frm < z.frm := fun z hz => ha.1 _ (List.mem_map_of_mem hz)
    have hb1 : ∀ z ∈ ys, y.frm < z.frm := fun z hz => hb.1 _ (List.mem_map_of_mem hz)
    have hxy : x = y := by
      have h1 := (e x).1 (by simp)
      have h2 := (e y).2 (by simp)
      simp only [List.mem_cons] at h1 h2
      rcases h1 with h1 | h1
      · exact h1
      · rcases h2 with h2 | h2
        · exact h2.symm
        · have := hb1 x h1; have := ha1 y h2; omega
    subst hxy
    congr 1
    refine risesV_uniq ha.2 hb.2 (fun v => ?_)
    constructor
    · intro hv
      have := (e v).1 (by simp [hv])
      simp only [List.mem_cons] at this
      rcases this with h | h
      · subst h; have := ha1 v hv; omega
      · exact h
    · intro hv
      have := (e v).2 (by simp [hv])
      simp only [List.mem_cons] at this
      rcases this with h | h
      · subst h; have := hb1 v hv; omega
      · exact h
theorem risesV_lt {o : List Vote} (h : RisesV o) (i j : Nat) (hi : i < o.length) (hj : j < o.length) (hij : i < j) : o[i].frm < o[j].frm := by
  have := rises_le h i j (by simpa using hi) (by simpa using hj) hij
  simpa using this
theorem risesV_inj {o : List Vote} (h : RisesV o) {x y : Vote} (hx : x ∈ o) (hy : y ∈ o) (hf : x.frm = y.frm) : x = y := by
  obtain ⟨i, hi, rfl⟩ := List.getElem_of_mem hx
  obtain ⟨j, hj, rfl⟩ := List.getElem_of_mem hy
  rcases Nat.lt_trichotomy i j with h1 | h1 | h1
  · have := risesV_lt h i j hi hj h1; omega
  · subst h1; rfl
  · have := risesV_lt h j i hj hi h1; omega
/-- The votes of slot s that count. -/
def InOf (l : List Vote) (s : Int) (v : Vote) : Prop := v ∈ l ∧ v.slot = s ∧ ¬ Dbl l s v.frm
/-- The last votes up to slot u that count. -/
def InLast (l : List Vote) (u : Int) (v : Vote) : Prop :=
  v ∈ l ∧ v.slot ≤ u ∧ (∀ y ∈ l, y.frm = v.frm → y.slot ≤ u → y.slot ≤ v.slot) ∧ ∀ y ∈ l, y.frm = v.frm → y.slot ≤ u → ¬ Dbl l y.slot v.frm
def IsOf (l : List Vote) (s : Int) (o : List Vote) : Prop := RisesV o ∧ ∀ v, v ∈ o ↔ InOf l s v
def IsLast (l : List Vote) (u : Int) (o : List Vote) : Prop := RisesV o ∧ ∀ v, v ∈ o ↔ InLast l u v
def IsDbl (l : List Vote) (s : Int) (d : List Int) : Prop := Rises d ∧ ∀ f, f ∈ d ↔ Dbl l s f
def insV (v : Vote) : List Vote → List Vote
  | [] => [v]
  | x :: xs => if v.frm < x.frm then v :: x :: xs else if v.frm = x.frm then x :: xs else x :: insV v xs
theorem insV_is (v : Vote) : ∀ o : List Vote, RisesV o → (∀ x ∈ o, x.frm = v.frm → x = v) → RisesV (insV v o) ∧ ∀ z, z ∈ insV v o ↔ z = v ∨ z ∈ o
  | [], _, _ => ⟨⟨by simp, trivial⟩, by simp [insV]⟩
  | x :: xs, h, hu => by
    have hx1 : ∀ z ∈ xs, x.frm < z.frm := fun z hz => h.1 _ (List.mem_map_of_mem hz)
    unfold insV
    by_cases h1 : v.frm < x.frm
    · rw [if_pos h1]
      refine ⟨⟨fun y hy => ?_, h⟩, by simp⟩
      simp only [List.map_cons, List.mem_cons] at hy
      rcases hy with rfl | hy
      · exact h1
      · obtain ⟨z, hz, rfl⟩ := List.mem_map.1 hy
        have := hx1 z hz
        show v.frm < z.frm
        omega
    · rw [if_neg h1]
      by_cases h2 : v.frm = x.frm
      · rw [if_pos h2]
        have := hu x (by simp) h2.symm
        subst this
        exact ⟨h, fun z => by simp⟩
      · rw [if_neg h2]
        obtain ⟨i1, i2⟩ := insV_is v xs h.2 (fun y hy => hu y (by simp [hy]))
        refine ⟨⟨fun y hy => ?_, i1⟩, fun z => ?_⟩
        · obtain ⟨z, hz, rfl⟩ := List.mem_map.1 hy
          show x.frm < z.frm
          rcases (i2 z).1 hz with rfl | hz
          · omega
          · exact hx1 z hz
        · rw [List.mem_cons, i2, List.mem_cons]
          constructor
          · rintro (h | h | h)
            · exact .inr (.inl h)
            · exact .inl h
            · exact .inr (.inr h)
          · rintro (h | h | h)
            · exact .inr (.inl h)
            · exact .inl h
            · exact .inr (.inr h)
def setV (l : List Vote) : List Vote := l.foldr insV []
theorem setV_is : ∀ l : List Vote, (∀ x ∈ l, ∀ y ∈ l, x.frm = y.frm → x = y) → RisesV (setV l) ∧ ∀ z, z ∈ setV l ↔ z ∈ l
  | [], _ => ⟨trivial, by simp [setV]⟩
  | v :: l, h => by
    obtain ⟨i1, i2⟩ := setV_is l (fun x hx y hy => h x (by simp [hx]) y (by simp [hy]))
    obtain ⟨j1, j2⟩ := insV_is v (setV l) i1 (fun x hx he => h x (by simp [(i2 x).1 hx]) v (by simp) he)
    exact ⟨j1, fun z => (j2 z).trans (by rw [i2, List.mem_cons])⟩
instance instInOf (l : List Vote) (s : Int) (v : Vote) : Decidable (InOf l s v) := by unfold InOf; exact inferInstance
instance instInLast (l : List Vote) (u : Int) (v : Vote) : Decidable (InLast l u v) := by unfold InLast; exact inferInstance
def ofL (l : List Vote) (s : Int) : List Vote := setV (l.filter fun v => decide (InOf l s v))
def lastL (l : List Vote) (u : Int) : List Vote := setV (l.filter fun v => decide (InLast l u v))
def dblL (l : List Vote) (s : Int) : List Int := setup ((l.filter fun v => decide (v.slot = s ∧ Dbl l s v.frm)).map (·.frm))
theorem inOf_uniq {l : List Vote} {s : Int} {x y : Vote} (hx : InOf l s x) (hy : InOf l s y) (hf : x.frm = y.frm) : x = y :=
  dbl_one hx.1 hy.1 hf (hx.2.1.trans hy.2.1.symm) (by rw [hx.2.1]; exact hx.2.2)
theorem inLast_uniq {l : List Vote} {u : Int} {x y : Vote} (hx : InLast l u x) (hy : InLast l u y) (hf : x.frm = y.frm) : x = y := by
  have h1 := hx.2.2.1 y hy.1 hf.symm hy.2.1
  have h2 := hy.2.2.1 x hx.1 hf hx.2.1
  exact dbl_one hx.1 hy.1 hf (by omega) (hx.2.2.2 x hx.1 rfl hx.2.1)
theorem ofL_is (l : List Vote) (s : Int) : IsOf l s (ofL l s) := by
  obtain ⟨h1, h2⟩ := setV_is (l.filter fun v => decide (InOf l s v)) (fun x hx y hy hf => inOf_uniq (s := s) (l := l) (by simpa using (List.mem_filter.1 hx).2) (by simpa using (List.mem_filter.1 hy).2) hf)
  refine ⟨h1, fun v => (h2 v).trans ?_⟩
  rw [List.mem_filter, decide_eq_true_iff]
  exact ⟨fun h => h.2, fun h => ⟨h.1, h⟩⟩
theorem lastL_is (l : List Vote) (u : Int) : IsLast l u (lastL l u) := by
  obtain ⟨h1, h2⟩ := setV_is (l.filter fun v => decide (InLast l u v)) (fun x hx y hy hf => inLast_uniq (u := u) (l := l) (by simpa using (List.mem_filter.1 hx).2) (by simpa using (List.mem_filter.1 hy).2) hf)
  refine ⟨h1, fun v => (h2 v).trans ?_⟩
  rw [List.mem_filter, decide_eq_true_iff]
  exact ⟨fun h => h.2, fun h => ⟨h.1, h⟩⟩
theorem dblL_is (l : List Vote) (s : Int) : IsDbl l s (dblL l s) := by
  obtain ⟨h1, h2⟩ := setup_rises ((l.filter fun v => decide (v.slot = s ∧ Dbl l s v.frm)).map (·.frm))
  refine ⟨h1, fun f => (h2 f).trans ?_⟩
  simp only [List.mem_map, List.mem_filter, decide_eq_true_eq]
  constructor
  · rintro ⟨v, ⟨_, _, h⟩, rfl⟩; exact h
  · intro h
    obtain ⟨x, hx, hf, hs⟩ := dbl_mem h
    exact ⟨x, ⟨hx, hs, by rw [hf]; exact h⟩, hf⟩
theorem ofL_eq {l : List Vote} {s : Int} {o : List Vote} (h : IsOf l s o) : o = ofL l s := risesV_uniq h.1 (ofL_is l s).1 (fun v => (h.2 v).trans ((ofL_is l s).2 v).symm)
theorem lastL_eq {l : List Vote} {s : Int} {o : List Vote} (h : IsLast l s o) : o = lastL l s := risesV_uniq h.1 (lastL_is l s).1 (fun v => (h.2 v).trans ((lastL_is l s).2 v).symm)
theorem dblL_eq {l : List Vote} {s : Int} {o : List Int} (h : IsDbl l s o) : o = dblL l s := rises_uniq h.1 (dblL_is l s).1 (fun v => (h.2 v).trans ((dblL_is l s).2 v).symm)
theorem insV_len (v : Vote) : ∀ o : List Vote, (insV v o).length ≤ o.length + 1
  | [] => by simp [insV]
  | x :: xs => by
    unfold insV
    have := insV_len v xs
    split
    · simp
    · split
      · simp
      · simp; omega
theorem setV_len : ∀ l : List Vote, (setV l).length ≤ l.length
  | [] => by simp [setV]
  | v :: l => by
    have h1 := setV_len l
    have h2 := insV_len v (setV l)
    show (insV v (setV l)).length ≤ _
    simp only [List.length_cons]
    omega
theorem ofL_len (l : List Vote) (s : Int) : (ofL l s).length ≤ l.length := Nat.le_trans (setV_len _) (List.length_filter_le _ _)
theorem lastL_len (l : List Vote) (s : Int) : (lastL l s).length ≤ l.length := Nat.le_trans (setV_len _) (List.length_filter_le _ _)
theorem setup_len (l : List Int) : (setup l).length ≤ l.length := by
  have := Lib.compact_length_le (isort l)
  rw [isort_len] at this
  exact this
theorem dblL_len (l : List Vote) (s : Int) : (dblL l s).length ≤ l.length := by
  refine Nat.le_trans (setup_len _) ?_
  rw [List.length_map]
  exact List.length_filter_le _ _
/-- Sorting numbers that differ. -/
theorem isort_rises {l : List Int} (h : l.Nodup) : Rises (isort l) := by
  have hp := isort_le l
  have hn : (isort l).Nodup := (isort_perm l).nodup_iff.2 h
  refine rises_of fun i hi => ?_
  have h1 := List.pairwise_iff_getElem.1 hp i (i + 1) (by omega) hi (by omega)
  have h2 := List.pairwise_iff_getElem.1 hn i (i + 1) (by omega) hi (by omega)
  omega
end Go.Proofs.YtdocgemfedohdaaGreat
/-! What is on a block parts among what stands on it, and its own votes: the plain law. -/
namespace Go.Proofs.YtdocgemfedohdaaGreat
theorem chain_len {l : List Blk} (ht : Tree l) {x y : ID} (h : y ∈ chain l x) : (chain l y).length ≤ (chain l x).length := by
  revert h
  refine chain_ind ht (P := fun _ ch => y ∈ ch → (chain l y).length ≤ ch.length) (fun _ h => by simp at h) ?_ ?_ x
  · intro h
    simp only [List.mem_singleton] at h
    subst h
    rw [chain_zid ht]; exact Nat.le_refl _
  · intro n hn ih h
    rcases List.mem_cons.1 h with rfl | h
    · rw [chain_cons ht hn]; exact Nat.le_refl _
    · have := ih h; simp only [List.length_cons]; omega
theorem name_notin {l : List Blk} (ht : Tree l) {n : Nat} (hn : n < l.length) : nameOf l[n] ∉ chain l l[n].par := fun h => by
  have := chain_len ht h
  rw [chain_cons ht hn] at this
  simp only [List.length_cons] at this
  omega
theorem par_chain {l : List Blk} (ht : Tree l) {n : Nat} (hn : n < l.length) : chain l l[n].par ≠ [] := by
  obtain ⟨r, hr⟩ := chain_head ht (par_mem ht hn)
  rw [hr]; simp
def sumL {α : Type} (f : α → Int) : List α → Int
  | [] => 0
  | k :: ks => f k + sumL f ks
theorem sumL_snoc {α : Type} (f : α → Int) (x : α) : ∀ ks : List α, sumL f (ks ++ [x]) = sumL f ks + f x
  | [] => by simp [sumL]
  | k :: ks => by simp only [List.cons_append, sumL]; rw [sumL_snoc f x ks]; omega
theorem sumL_add {α : Type} {f g h : α → Int} : ∀ ks : List α, (∀ k ∈ ks, f k = g k + h k) → sumL f ks = sumL g ks + sumL h ks
  | [], _ => by simp [sumL]
  | k :: ks, e => by
    have := sumL_add ks (fun k hk => e k (by simp [hk]))
    have := e k (by simp)
    simp only [sumL]; omega
theorem sumL_zero {α : Type} {f : α → Int} : ∀ ks : List α, (∀ k ∈ ks, f k = 0) → sumL f ks = 0
  | [], _ => rfl
  | k :: ks, e => by
    have := sumL_zero ks (fun k hk => e k (by simp [hk]))
    have := e k (by simp)
    simp only [sumL]; omega
theorem sumL_bd {α : Type} {f : α → Int} {B : Int} (h : ∀ k, 0 ≤ f k ∧ f k ≤ B) : ∀ ks : List α, 0 ≤ sumL f ks ∧ sumL f ks ≤ ks.length * B
  | [] => by simp [sumL]
  | k :: ks => by
    have := sumL_bd h ks
    have := h k
    simp only [sumL, List.length_cons]
    rw [show ((ks.length + 1 : Nat) : Int) * B = ks.length * B + B by rw [Int.natCast_add, Int.add_mul]; simp]
    omega
def ind (b : Bool) : Int := if b then 1 else 0
theorem sumL_one {b : List Blk} {x : ID} {p : Prop} [Decidable p] : (∀ i j (hi : i < b.length) (hj : j < b.length), nameOf b[i] = nameOf b[j] → i = j) → ∀ (id : ID), (∀ c ∈ b, nameOf c = x → (c.par = id ↔ p)) → sumL (fun k => ind (decide (k = x))) (kidsOf b id) = ind (decide (p ∧ ∃ c ∈ b, nameOf c = x)) := by
  induction b with
  | nil => intro _ _ _; simp [kidsOf, sumL, ind]
  | cons c b ih =>
    intro hu id hp
    have ih' := ih (fun i j hi hj h => by
      have := hu (i + 1) (j + 1) (by simpa using hi) (by simpa using hj) (by simpa using h)
      omega) id (fun d hd => hp d (by simp [hd]))
    have hno : ∀ d ∈ b, nameOf d ≠ nameOf c := fun d hd e => by
      obtain ⟨i, hi, rfl⟩ := List.getElem_of_mem hd
      have := hu (i + 1) 0 (by simpa using hi) (by simp) (by simpa using e)
      omega
    unfold kidsOf at *
    by_cases hc : c.par = id
    · simp only [List.filter_cons, hc, decide_true, if_true, List.map_cons, sumL]
      rw [ih']
      by_cases hx : nameOf c = x
      · have hp1 := (hp c (by simp) hx).1 hc
        have h1 : ¬ ∃ c ∈ b, nameOf c = x := fun ⟨d, hd, e⟩ => hno d hd (e.trans hx.symm)
        simp [hx, hp1, h1, ind]
      · simp [hx, ind]
    · have : decide (c.par = id) = false := by simpa using hc
      simp only [List.filter_cons, this, Bool.false_eq_true, if_false]
      rw [ih']
      by_cases hx : nameOf c = x
      · have hp1 : ¬ p := fun h => hc ((hp c (by simp) hx).2 h)
        simp [hp1]
      · simp [hx]
theorem kids_zid {l : List Blk} (ht : Tree l) {k id : ID} (h : k ∈ kidsOf l id) : k ≠ zid := by
  unfold kidsOf at h
  obtain ⟨b, hb, rfl⟩ := List.mem_map.1 h
  obtain ⟨n, hn, rfl⟩ := List.getElem_of_mem (List.mem_filter.1 hb).1
  exact (ht n hn).1
/-- Whether a block stands on another one: it is the block, or stands on just one of its children. -/
theorem on_parts {l : List Blk} (ht : Tree l) (id x : ID) : ind (decide (id ∈ chain l x)) = ind (decide (x = id ∧ chain l x ≠ [])) + sumL (fun k => ind (decide (k ∈ chain l x))) (kidsOf l id) := by
  refine chain_ind ht (P := fun x ch => ind (decide (id ∈ ch)) = ind (decide (x = id ∧ ch ≠ [])) + sumL (fun k => ind (decide (k ∈ ch))) (kidsOf l id)) ?_ ?_ ?_ x
  · intro x
    rw [sumL_zero _ (fun k _ => by simp [ind])]
    simp [ind]
  · rw [sumL_zero _ (fun k hk => by simp [ind, kids_zid ht hk])]
    by_cases h : id = zid
    · subst h; simp [ind]
    · have h' : ¬ zid = id := fun e => h e.symm
      simp [ind, h, h']
  · intro n hn ih
    have hne := name_notin ht hn
    have hpc := par_chain ht hn
    have hsum : sumL (fun k => ind (decide (k ∈ nameOf l[n] :: chain l l[n].par))) (kidsOf l id) = sumL (fun k => ind (decide (k = nameOf l[n]))) (kidsOf l id) + sumL (fun k => ind (decide (k ∈ chain l l[n].par))) (kidsOf l id) := by
      refine sumL_add _ fun k _ => ?_
      by_cases hk : k = nameOf l[n]
      · subst hk; simp [ind, hne]
      · simp [ind, hk]
    have hone := sumL_one (p := l[n].par = id) (x := nameOf l[n]) (b := l) (fun i j hi hj h => tree_inj ht hi hj h) id (fun c hc e => by
      obtain ⟨m, hm, rfl⟩ := List.getElem_of_mem hc
      have := tree_inj ht hm hn e
      subst this
      exact Iff.rfl)
    rw [hsum, hone]
    have hex : ∃ c ∈ l, nameOf c = nameOf l[n] := ⟨_, List.getElem_mem hn, rfl⟩
    by_cases h1 : id = nameOf l[n]
    · have h2 : id ∉ chain l l[n].par := by rw [h1]; exact hne
      have h3 : ¬ l[n].par = id := fun e => by
        apply h2
        rw [e]; rw [e] at hpc
        exact chain_self hpc
      have hz : ind (decide (l[n].par = id ∧ chain l l[n].par ≠ [])) = 0 := by simp [ind, h3]
      have hy : ind (decide (id ∈ chain l l[n].par)) = 0 := by simp [ind, h2]
      have hw : ind (decide (l[n].par = id ∧ ∃ c ∈ l, nameOf c = nameOf l[n])) = 0 := by simp [ind, h3]
      have hv : ind (decide (id ∈ nameOf l[n] :: chain l l[n].par)) = 1 := by simp [ind, h1]
      have hu : ind (decide (nameOf l[n] = id ∧ nameOf l[n] :: chain l l[n].par ≠ [])) = 1 := by simp [ind, h1]
      omega
    · have hv : ind (decide (id ∈ nameOf l[n] :: chain l l[n].par)) = ind (decide (id ∈ chain l l[n].par)) := by simp [h1]
      have hu : ind (decide (nameOf l[n] = id ∧ nameOf l[n] :: chain l l[n].par ≠ [])) = 0 := by
        have : ¬ nameOf l[n] = id := fun e => h1 e.symm
        simp [ind, this]
      have hw : ind (decide (l[n].par = id ∧ ∃ c ∈ l, nameOf c = nameOf l[n])) = ind (decide (l[n].par = id ∧ chain l l[n].par ≠ [])) := by
        congr 1
        apply decide_eq_decide.2
        exact ⟨fun h => ⟨h.1, hpc⟩, fun h => ⟨h.1, hex⟩⟩
      omega
/-- Whose votes are for a block itself. -/
def ownOf (m : List Vote) (id : ID) : List Int := (m.filter fun v => decide (v.head = id)).map Vote.frm
theorem ownOf_snoc {vs : List Vote} {id : ID} {k : Nat} (hlt : k < vs.length) : ownOf (vs.take (k + 1)) id = ownOf (vs.take k) id ++ (if vs[k].head = id then [vs[k].frm] else []) := by
  unfold ownOf
  rw [← List.take_append_getElem hlt, List.filter_append, List.map_append]
  by_cases h : vs[k].head = id <;> simp [h]
theorem ownOf_len (vs : List Vote) (id : ID) : (ownOf vs id).length ≤ vs.length := by
  unfold ownOf
  rw [List.length_map]
  exact List.length_filter_le _ _
theorem mem_whoOn {l : List Blk} {m : List Vote} {id : ID} {i : Int} : i ∈ whoOn l m id ↔ ∃ v ∈ m, id ∈ chain l v.head ∧ v.frm = i := by
  unfold whoOn
  simp only [List.mem_map, List.mem_filter, decide_eq_true_eq]
  exact ⟨fun ⟨v, ⟨h1, h2⟩, h3⟩ => ⟨v, h1, h2, h3⟩, fun ⟨v, h1, h2, h3⟩ => ⟨v, ⟨h1, h2⟩, h3⟩⟩
theorem mem_ownOf {m : List Vote} {id : ID} {i : Int} : i ∈ ownOf m id ↔ ∃ v ∈ m, v.head = id ∧ v.frm = i := by
  unfold ownOf
  simp only [List.mem_map, List.mem_filter, decide_eq_true_eq]
  exact ⟨fun ⟨v, ⟨h1, h2⟩, h3⟩ => ⟨v, h1, h2, h3⟩, fun ⟨v, h1, h2, h3⟩ => ⟨v, ⟨h1, h2⟩, h3⟩⟩
theorem who_parts {l : List Blk} (ht : Tree l) {m : List Vote} (hm : RisesV m) {id : ID} (hid : chain l id ≠ []) (i : Int) :
    ind (decide (i ∈ whoOn l m id)) = ind (decide (i ∈ ownOf m id)) + sumL (fun k => ind (decide (i ∈ whoOn l m k))) (kidsOf l id) := by
  by_cases hex : ∃ v ∈ m, v.frm = i
  · obtain ⟨v, hv, rfl⟩ := hex
    have hw : ∀ y, v.frm ∈ whoOn l m y ↔ y ∈ chain l v.head := fun y => by
      rw [mem_whoOn]
      exact ⟨fun ⟨u, hu, h1, h2⟩ => by rw [← risesV_inj hm hu hv h2]; exact h1, fun h => ⟨v, hv, h, rfl⟩⟩
    have ho : v.frm ∈ ownOf m id ↔ v.head = id := by
      rw [mem_ownOf]
      exact ⟨fun ⟨u, hu, h1, h2⟩ => by rw [← risesV_inj hm hu hv h2]; exact h1, fun h => ⟨v, hv, h, rfl⟩⟩
    have := on_parts ht id v.head
    simp only [hw, ho]
    rw [this]
    congr 1
    congr 1
    apply decide_eq_decide.2
    exact ⟨fun h => h.1, fun h => ⟨h, by rw [h]; exact hid⟩⟩
  · have hw : ∀ y, i ∉ whoOn l m y := fun y h => by
      obtain ⟨v, hv, _, e⟩ := mem_whoOn.1 h
      exact hex ⟨v, hv, e⟩
    have ho : i ∉ ownOf m id := fun h => by
      obtain ⟨v, hv, _, e⟩ := mem_ownOf.1 h
      exact hex ⟨v, hv, e⟩
    rw [sumL_zero _ (fun k _ => by simp [ind, hw])]
    simp [ind, hw, ho]
theorem sumL_mul {α : Type} (f : α → Int) (x : Int) : ∀ ks : List α, sumL (fun k => f k * x) ks = sumL f ks * x
  | [] => by simp [sumL]
  | k :: ks => by simp only [sumL]; rw [sumL_mul f x ks, Int.add_mul]
theorem ind_mul (b : Bool) (x : Int) : (if b = true then x else 0) = ind b * x := by cases b <;> simp [ind]
theorem wsum_parts (W : List Int) {p q : Nat → Bool} {α : Type} {r : α → Nat → Bool} {ks : List α} (h : ∀ i, ind (p i) = ind (q i) + sumL (fun y => ind (r y i)) ks) (k : Nat) :
    wsumTo W p k = wsumTo W q k + sumL (fun y => wsumTo W (r y) k) ks := by
  induction k with
  | zero => simp only [wsumTo]; rw [sumL_zero _ (fun _ _ => rfl)]; rfl
  | succ k ih =>
    have e := sumL_add (f := fun y => wsumTo W (r y) (k + 1)) (g := fun y => wsumTo W (r y) k) (h := fun y => ind (r y k) * W[k]?.getD 0) ks (fun y _ => by simp only [wsumTo]; rw [ind_mul])
    rw [e, sumL_mul]
    simp only [wsumTo]
    rw [ih, ind_mul, ind_mul, h k, Int.add_mul]
    omega
theorem on_splits (c : Cfg) {l : List Blk} (ht : Tree l) {m : List Vote} (hm : RisesV m) {id : ID} (hid : chain l id ≠ []) :
    onC c l m id = sumL (onC c l m) (kidsOf l id) + weightC c (ownOf m id) := by
  unfold onC weightC
  by_cases hc : MayC c
  · simp only [if_pos hc]
    rw [wsum_parts c.W (q := fun i => decide ((i : Int) ∈ ownOf m id)) (r := fun y i => decide ((i : Int) ∈ whoOn l m y)) (ks := kidsOf l id) (fun i => who_parts ht hm hid i)]
    omega
  · simp only [if_neg hc]
    rw [sumL_zero _ (fun _ _ => rfl)]
    rfl
theorem on_unknown (c : Cfg) {l : List Blk} (m : List Vote) {id : ID} (hid : chain l id = []) : onC c l m id = 0 := by
  have : whoOn l m id = [] := by
    unfold whoOn
    rw [List.map_eq_nil_iff, List.filter_eq_nil_iff]
    intro v _
    simp only [decide_eq_true_eq]
    intro h
    exact chain_mem h hid
  unfold onC
  rw [this, weightC_nil]
end Go.Proofs.YtdocgemfedohdaaGreat
/-! The pure law of arrays of blocks: settled ones, their uniqueness, and how weight that is put on one is carried up. -/
namespace Go.Proofs.YtdocgemfedohdaaGreat
instance : Inhabited ID := ⟨⟨0, 0⟩⟩
structure Item where
  id : ID
  par : Int
  own : Int
  w : Int
  best : Int
  head : Int
  deriving DecidableEq, Inhabited
def encItem (x : Item) : List Value := [.int .u64 x.id.hi, .int .u64 x.id.lo, .int .i64 x.par, .int .i64 x.own, .int .i64 x.w, .int .i64 x.best, .int .i64 x.head]
def idLess (a b : ID) : Bool := decide (a.hi < b.hi) || decide (a.hi = b.hi) && decide (a.lo < b.lo)
def itm (a : List Item) (i : Nat) : Item := a[i]?.getD default
theorem itm_lt {a : List Item} {i : Nat} (h : i < a.length) : itm a i = a[i] := by simp [itm, h]
theorem itm_set (a : List Item) (i k : Nat) (x : Item) (h : i < a.length) : itm (a.set i x) k = if k = i then x else itm a k := by
  unfold itm
  rw [List.getElem?_set]
  by_cases e : i = k
  · subst e; simp [h]
  · rw [if_neg e, if_neg (fun h => e h.symm)]
theorem itm_app (a : List Item) (x : Item) (k : Nat) (h : k < a.length) : itm (a ++ [x]) k = itm a k := by unfold itm; rw [List.getElem?_append_left h]
theorem itm_new (a : List Item) (x : Item) : itm (a ++ [x]) a.length = x := by simp [itm]
theorem itm_ext {a b : List Item} (hl : a.length = b.length) (h : ∀ i, i < a.length → itm a i = itm b i) : a = b := by
  apply List.ext_getElem hl
  intro i h1 h2
  have := h i h1
  rwa [itm_lt h1, itm_lt h2] at this
/-! Sums. -/
def sumR (f : Nat → Int) : Nat → Int
  | 0 => 0
  | n + 1 => sumR f n + f n
theorem sumR_congr {f g : Nat → Int} {n : Nat} (h : ∀ k, k < n → f k = g k) : sumR f n = sumR g n := by
  induction n with
  | zero => rfl
  | succ n ih => rw [sumR, sumR, ih (fun k hk => h k (by omega)), h n (by omega)]
theorem sumR_add (f g : Nat → Int) (n : Nat) : sumR (fun k => f k + g k) n = sumR f n + sumR g n := by
  induction n with
  | zero => rfl
  | succ n ih => simp only [sumR, ih]; omega
theorem sumR_sub (f g : Nat → Int) (n : Nat) : sumR (fun k => f k - g k) n = sumR f n - sumR g n := by
  induction n with
  | zero => rfl
  | succ n ih => simp only [sumR, ih]; omega
theorem sumR_zero {f : Nat → Int} {n : Nat} (h : ∀ k, k < n → f k = 0) : sumR f n = 0 := by
  induction n with
  | zero => rfl
  | succ n ih => rw [sumR, ih (fun k hk => h k (by omega)), h n (by omega)]; rfl
theorem sumR_one {f : Nat → Int} {n i : Nat} (hi : i < n) (h : ∀ k, k < n → k ≠ i → f k = 0) : sumR f n = f i := by
  induction n with
  | zero => omega
  | succ n ih =>
    rw [sumR]
    by_cases e : i = n
    · subst e; rw [sumR_zero (fun k hk => h k (by omega) (by omega))]; omega
    · rw [ih (by omega) (fun k hk hn => h k (by omega) hn), h n (by omega) (fun e2 => e e2.symm)]; omega
theorem sumR_nonneg {f : Nat → Int} {n : Nat} (h : ∀ k, k < n → 0 ≤ f k) : 0 ≤ sumR f n := by
  induction n with
  | zero => exact Int.le_refl _
  | succ n ih => rw [sumR]; have := ih (fun k hk => h k (by omega)); have := h n (by omega); omega
theorem sumR_mem {f : Nat → Int} {n i : Nat} (h : ∀ k, k < n → 0 ≤ f k) (hi : i < n) : f i ≤ sumR f n := by
  induction n with
  | zero => omega
  | succ n ih =>
    rw [sumR]
    by_cases e : i = n
    · subst e; have := sumR_nonneg (f := f) (n := i) (fun k hk => h k (by omega)); omega
    · have := ih (fun k hk => h k (by omega)) (by omega); have := h n (by omega); omega
theorem sumR_bd {f : Nat → Int} {B : Int} {n : Nat} (h : ∀ k, k < n → f k ≤ B) (_ : 0 ≤ B) : sumR f n ≤ n * B := by
  induction n with
  | zero => simp [sumR]
  | succ n ih => rw [sumR]; have := ih (fun k hk => h k (by omega)); have := h n (by omega); rw [Int.natCast_succ, Int.add_mul]; omega
/-! What a settled array is. -/
def better (x y : Item) : Bool := decide (y.w < x.w) || decide (x.w = y.w) && idLess y.id x.id
def bestTo (a : List Item) (at' : Int) : Nat → Int
  | 0 => -1
  | k + 1 => if (itm a k).par = at' ∧ (bestTo a at' k = -1 ∨ better (itm a k) (itm a (bestTo a at' k).toNat) = true) then (k : Int) else bestTo a at' k
def best (a : List Item) (at' : Int) : Int := bestTo a at' a.length
def wsum (a : List Item) (at' : Int) (n : Nat) : Int := sumR (fun k => if (itm a k).par = at' then (itm a k).w else 0) n
def WEq (a : List Item) (i : Nat) : Prop := (itm a i).w = (itm a i).own + wsum a i a.length
def headOf (a : List Item) (i : Nat) : Int := if best a i = -1 then (i : Int) else (itm a (best a i).toNat).head
def BEq (a : List Item) (i : Nat) : Prop := (itm a i).best = best a i ∧ (itm a i).head = headOf a i
def ParOk (a : List Item) : Prop := ∀ i, i < a.length → -1 ≤ (itm a i).par ∧ (itm a i).par < i
def Settled (a : List Item) : Prop := ∀ i, i < a.length → WEq a i ∧ BEq a i
def SameSk (a b : List Item) : Prop := a.length = b.length ∧ ∀ i, i < a.length → (itm a i).id = (itm b i).id ∧ (itm a i).par = (itm b i).par ∧ (itm a i).own = (itm b i).own
theorem bestTo_spec (a : List Item) (p : Int) (n : Nat) : bestTo a p n = -1 ∨ ∃ j : Nat, j < n ∧ (itm a j).par = p ∧ bestTo a p n = j := by
  induction n with
  | zero => exact .inl rfl
  | succ n ih =>
    rw [bestTo]
    split
    · rename_i h
      exact .inr ⟨n, by omega, h.1, rfl⟩
    · rcases ih with h | ⟨j, h1, h2, h3⟩
      · exact .inl h
      · exact .inr ⟨j, by omega, h2, h3⟩
theorem bestTo_none {a : List Item} {p : Int} {n : Nat} : bestTo a p n = -1 ↔ ∀ k, k < n → (itm a k).par ≠ p := by
  induction n with
  | zero => simp [bestTo]
  | succ n ih =>
    rw [bestTo]
    constructor
    · intro h
      split at h
      · omega
      · rename_i hn
        intro k hk e
        by_cases e2 : k = n
        · subst e2; exact hn ⟨e, .inl h⟩
        · exact ih.1 h k (by omega) e
    · intro h
      rw [if_neg (fun hc => h n (by omega) hc.1)]
      exact ih.2 (fun k hk => h k (by omega))
/-- The best one is told by what stands on p alone. -/
theorem bestTo_congr {a b : List Item} {p : Int} {n : Nat} (hp : ∀ k, k < n → ((itm a k).par = p ↔ (itm b k).par = p)) (hv : ∀ k, k < n → (itm a k).par = p → (itm a k).w = (itm b k).w ∧ (itm a k).id = (itm b k).id) : bestTo a p n = bestTo b p n := by
  induction n with
  | zero => rfl
  | succ n ih =>
    have ih' := ih (fun k hk => hp k (by omega)) (fun k hk => hv k (by omega))
    rw [bestTo, bestTo, ih']
    by_cases h1 : (itm a n).par = p
    · have h2 := (hp n (by omega)).1 h1
      obtain ⟨e1, e2⟩ := hv n (by omega) h1
      have hb : bestTo b p n = -1 ∨ better (itm a n) (itm a (bestTo b p n).toNat) = better (itm b n) (itm b (bestTo b p n).toNat) := by
        rw [← ih']
        rcases bestTo_spec a p n with h | ⟨j, j1, j2, j3⟩
        · exact .inl h
        · right
          obtain ⟨f1, f2⟩ := hv j (by omega) j2
          rw [j3]
          simp only [Int.toNat_natCast, better, e1, e2, f1, f2]
      rcases hb with hb | hb
      · simp [h1, h2, hb]
      · simp [h1, h2, hb]
    · have h2 : ¬ (itm b n).par = p := fun h => h1 ((hp n (by omega)).2 h)
      rw [if_neg (fun h => h1 h.1), if_neg (fun h => h2 h.1)]
theorem wsum_congr {a b : List Item} {p : Int} {n : Nat} (hp : ∀ k, k < n → ((itm a k).par = p ↔ (itm b k).par = p)) (hv : ∀ k, k < n → (itm a k).par = p → (itm a k).w = (itm b k).w) : wsum a p n = wsum b p n := by
  unfold wsum
  apply sumR_congr
  intro k hk
  show (if (itm a k).par = p then (itm a k).w else 0) = if (itm b k).par = p then (itm b k).w else 0
  by_cases h : (itm a k).par = p
  · rw [if_pos h, if_pos ((hp k hk).1 h), hv k hk h]
  · rw [if_neg h, if_neg (fun h2 => h ((hp k hk).2 h2))]
theorem headOf_eq {a b : List Item} {i : Nat} (hb : best a i = best b i) (_ : a.length = b.length) (hh : ∀ k, k < a.length → (itm a k).par = i → (itm a k).head = (itm b k).head) : headOf a i = headOf b i := by
  unfold headOf
  rw [← hb]
  rcases bestTo_spec a i a.length with h | ⟨j, j1, j2, j3⟩
  · have h' : best a i = -1 := h
    rw [if_pos h', if_pos h']
  · have h' : best a i = j := j3
    rw [h', if_neg (by omega), if_neg (by omega)]
    simp only [Int.toNat_natCast]
    exact hh j j1 j2
/-- Two settled arrays of one skeleton are one. -/
theorem settled_uniq {a b : List Item} (hp : ParOk a) (hs : SameSk a b) (ha : Settled a) (hb : Settled b) : a = b := by
  obtain ⟨hl, hs⟩ := hs
  refine itm_ext hl ?_
  have key : ∀ m i, i < a.length → a.length ≤ i + m → itm a i = itm b i := by
    intro m
    induction m with
    | zero => intro i h1 h2; omega
    | succ m ih =>
      intro i h1 h2
      obtain ⟨e1, e2, e3⟩ := hs i h1
      obtain ⟨w1, b1, c1⟩ := ha i h1
      obtain ⟨w2, b2, c2⟩ := hb i (by omega)
      have hch : ∀ k, k < a.length → (itm a k).par = i → itm a k = itm b k := fun k hk hpk => ih k hk (by have := (hp k hk).2; omega)
      have hpi : ∀ k, k < a.length → ((itm a k).par = i ↔ (itm b k).par = i) := fun k hk => by rw [(hs k hk).2.1]
      have hw : wsum a i a.length = wsum b i b.length := by rw [← hl]; exact wsum_congr hpi (fun k hk h => by rw [hch k hk h])
      have hbe : best a i = best b i := by unfold best; rw [← hl]; exact bestTo_congr hpi (fun k hk h => by rw [hch k hk h]; exact ⟨rfl, rfl⟩)
      have hhe : headOf a i = headOf b i := headOf_eq hbe hl (fun k hk h => by rw [hch k hk h])
      unfold WEq at w1 w2
      rw [e3, hw, ← w2] at w1
      rw [hbe, ← b2] at b1
      rw [hhe, ← c2] at c1
      cases hx : itm a i
      cases hy : itm b i
      simp_all
  intro i hi
  exact key a.length i hi (by omega)
/-! What stands ahead of i weighs, together, what all from i on have of their own. -/
theorem cut_sum {a : List Item} (hp : ParOk a) (hw : ∀ i, i < a.length → WEq a i) : ∀ m i, a.length = i + m → sumR (fun k => if i ≤ k ∧ (itm a k).par < i then (itm a k).w else 0) a.length = sumR (fun k => if i ≤ k then (itm a k).own else 0) a.length := by
  intro m
  induction m with
  | zero =>
    intro i h
    rw [sumR_zero (fun k hk => if_neg (by omega)), sumR_zero (fun k hk => if_neg (by omega))]
  | succ m ih =>
    intro i h
    have hi : i < a.length := by omega
    have h1 := ih (i + 1) (by omega)
    have e1 : sumR (fun k => if i ≤ k ∧ (itm a k).par < i then (itm a k).w else 0) a.length = sumR (fun k => if i + 1 ≤ k ∧ (itm a k).par < (i + 1 : Nat) then (itm a k).w else 0) a.length - wsum a i a.length + (itm a i).w := by
      have e2 : (itm a i).w = sumR (fun k => if k = i then (itm a k).w else 0) a.length := by
        rw [sumR_one hi (fun k _ hn => if_neg hn), if_pos rfl]
      rw [e2]
      unfold wsum
      rw [← sumR_sub, ← sumR_add]
      apply sumR_congr
      intro k hk
      have := (hp k hk).2
      by_cases c1 : k = i
      · subst c1
        rw [if_pos ⟨by omega, this⟩, if_neg (by omega), if_neg (by omega), if_pos rfl]; omega
      · by_cases c2 : k < i
        · rw [if_neg (by omega), if_neg (by omega), if_neg (by omega), if_neg c1]; omega
        · by_cases c3 : (itm a k).par = i
          · rw [if_neg (by omega), if_pos (by omega), if_pos c3, if_neg c1]; omega
          · by_cases c4 : (itm a k).par < i
            · rw [if_pos (by omega), if_pos (by omega), if_neg c3, if_neg c1]; omega
            · rw [if_neg (by omega), if_neg (by omega), if_neg c3, if_neg c1]; omega
    have e3 : sumR (fun k => if i ≤ k then (itm a k).own else 0) a.length = sumR (fun k => if i + 1 ≤ k then (itm a k).own else 0) a.length + (itm a i).own := by
      have e2 : (itm a i).own = sumR (fun k => if k = i then (itm a k).own else 0) a.length := by
        rw [sumR_one hi (fun k _ hn => if_neg hn), if_pos rfl]
      rw [e2, ← sumR_add]
      apply sumR_congr
      intro k hk
      by_cases c1 : k = i
      · subst c1; rw [if_pos (by omega), if_neg (by omega), if_pos rfl]; omega
      · by_cases c2 : i + 1 ≤ k
        · rw [if_pos (by omega), if_pos c2, if_neg c1]; omega
        · rw [if_neg (by omega), if_neg c2, if_neg c1]; omega
    have hwi := hw i hi
    unfold WEq at hwi
    rw [e1, h1, e3]
    omega
theorem wnonneg {a : List Item} (hp : ParOk a) (hw : ∀ i, i < a.length → WEq a i) (ho : ∀ i, i < a.length → 0 ≤ (itm a i).own) : ∀ i, i < a.length → 0 ≤ (itm a i).w := by
  have key : ∀ m i, i < a.length → a.length ≤ i + m → 0 ≤ (itm a i).w := by
    intro m
    induction m with
    | zero => intro i h1 h2; omega
    | succ m ih =>
      intro i h1 h2
      rw [hw i h1]
      have := ho i h1
      have : 0 ≤ wsum a i a.length := sumR_nonneg (fun k hk => by
        show 0 ≤ if (itm a k).par = (i : Int) then (itm a k).w else 0
        split
        · rename_i e; exact ih k hk (by have := (hp k hk).2; omega)
        · exact Int.le_refl _)
      omega
  intro i hi
  exact key a.length i hi (by omega)
theorem w_bound {a : List Item} {B : Int} (hp : ParOk a) (hw : ∀ i, i < a.length → WEq a i) (ho : ∀ i, i < a.length → 0 ≤ (itm a i).own ∧ (itm a i).own ≤ B) {i : Nat} (hi : i < a.length) : 0 ≤ (itm a i).w ∧ (itm a i).w ≤ a.length * B := by
  have hn := wnonneg hp hw (fun i hi => (ho i hi).1)
  refine ⟨hn i hi, ?_⟩
  have hB : 0 ≤ B := by have := ho i hi; omega
  have h1 := cut_sum hp hw (a.length - i) i (by omega)
  have h2 := sumR_mem (f := fun k => if i ≤ k ∧ (itm a k).par < i then (itm a k).w else 0) (n := a.length) (i := i) (fun k hk => by
    show 0 ≤ if i ≤ k ∧ (itm a k).par < i then (itm a k).w else 0
    split
    · exact hn k hk
    · exact Int.le_refl _) hi
  have h3 : sumR (fun k => if i ≤ k then (itm a k).own else 0) a.length ≤ a.length * B := sumR_bd (fun k hk => by
    show (if i ≤ k then (itm a k).own else 0) ≤ B
    split
    · exact (ho k hk).2
    · exact hB) hB
  have h4 : (if i ≤ i ∧ (itm a i).par < i then (itm a i).w else 0) = (itm a i).w := if_pos ⟨Nat.le_refl _, (hp i hi).2⟩
  simp only [h4] at h2
  omega
theorem root_sum {a : List Item} (hp : ParOk a) (hw : ∀ i, i < a.length → WEq a i) : wsum a (-1) a.length = sumR (fun k => (itm a k).own) a.length := by
  have h := cut_sum hp hw a.length 0 (by omega)
  rw [show wsum a (-1) a.length = sumR (fun k => if 0 ≤ k ∧ (itm a k).par < (0 : Nat) then (itm a k).w else 0) a.length from sumR_congr (fun k hk => by
    have := (hp k hk).1
    show (if (itm a k).par = -1 then (itm a k).w else 0) = _
    by_cases c : (itm a k).par = -1
    · rw [if_pos c, if_pos (by omega)]
    · rw [if_neg c, if_neg (by omega)]), h]
  exact sumR_congr (fun k hk => if_pos (Nat.zero_le _))
end Go.Proofs.YtdocgemfedohdaaGreat
/-! How much a boost is: the plain law. -/
namespace Go.Proofs.YtdocgemfedohdaaGreat
def boostC (c : Cfg) (pct : Int) : Int := if MayC c ∧ 0 ≤ pct ∧ pct ≤ 100 then (totalC c / c.epoch) * pct / 100 else 0
theorem totalC_bd (c : Cfg) : 0 ≤ totalC c ∧ totalC c ≤ 13194139533312 := by
  unfold totalC
  by_cases hm : MayC c
  · rw [if_pos hm]
    have h1 := wsumTo_bd hm.W (fun _ => true) c.W.length
    have h2 := hm.len
    omega
  · rw [if_neg hm]; omega
theorem boost_lemma {t e p : Int} (ht : 0 ≤ t) (he : 1 ≤ e) (hp : 0 ≤ p) (hp2 : p ≤ 100) : 0 ≤ t / e ∧ t / e ≤ t ∧ 0 ≤ t / e * p ∧ t / e * p ≤ t * 100 ∧ 0 ≤ t / e * p / 100 ∧ t / e * p / 100 ≤ t := by
  have h1 : 0 ≤ t / e := Int.ediv_nonneg ht (by omega)
  have h2 : t / e ≤ t := Int.ediv_le_self _ ht
  have h3 : 0 ≤ t / e * p := Int.mul_nonneg h1 hp
  have h4 : t / e * p ≤ t / e * 100 := Int.mul_le_mul_of_nonneg_left hp2 h1
  have h5 : t / e * 100 ≤ t * 100 := Int.mul_le_mul_of_nonneg_right h2 (by omega)
  refine ⟨h1, h2, h3, by omega, by omega, by omega⟩
theorem boostC_bd (c : Cfg) (pct : Int) : 0 ≤ boostC c pct ∧ boostC c pct ≤ totalC c ∧ boostC c pct ≤ 13194139533312 := by
  have ht := totalC_bd c
  unfold boostC
  split
  · rename_i h
    have := boost_lemma ht.1 h.1.2.1 h.2.1 h.2.2
    omega
  · omega
theorem boostC_mono (c : Cfg) {p q : Int} (hp : 0 ≤ p) (h : p ≤ q) (hq : q ≤ 100) : boostC c p ≤ boostC c q := by
  unfold boostC
  by_cases hm : MayC c
  · rw [if_pos ⟨hm, hp, by omega⟩, if_pos ⟨hm, by omega, hq⟩]
    have h1 := (boost_lemma (totalC_bd c).1 hm.2.1 hp (by omega)).1
    have h2 : totalC c / c.epoch * p ≤ totalC c / c.epoch * q := Int.mul_le_mul_of_nonneg_left h h1
    omega
  · rw [if_neg (fun h => hm h.1), if_neg (fun h => hm h.1)]
    exact Int.le_refl _
theorem boostC_zero (c : Cfg) : boostC c 0 = 0 := by
  unfold boostC
  split <;> simp
end Go.Proofs.YtdocgemfedohdaaGreat
