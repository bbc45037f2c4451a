/- Who is guilty, as numbers that rise (the plain law). -/
import Derived.Test.YtkccakaaklemdaaSlashP
import Derived.Test.YtkccakaaklemdaaSortI
import Derived.Lib.RowBridge
namespace Go.Proofs.Ytkccakaaklemdaa
theorem rises_snoc {l : List Int} {x : Int} (h : Rises l) (hx : ∀ y ∈ l, y < x) : Rises (l ++ [x]) := by
  induction l with
  | nil => exact ⟨by simp, trivial⟩
  | cons y l ih =>
    refine ⟨fun z hz => ?_, ih h.2 (fun z hz => hx z (by simp [hz]))⟩
    rcases List.mem_append.1 hz with hz | hz
    · exact h.1 z hz
    · simp only [List.mem_singleton] at hz; subst hz; exact hx y (by simp)
theorem compactUpTo_rises (d : Array Int) (n : Nat) (hs : ∀ i j, i ≤ j → j < n → d[i]! ≤ d[j]!) : ∀ m, m ≤ n → Rises (Lib.compactUpTo d m) ∧ ∀ x, x ∈ Lib.compactUpTo d m ↔ ∃ j, j < m ∧ d[j]! = x
  | 0, _ => ⟨by simp [Lib.compactUpTo, Rises], by simp [Lib.compactUpTo]⟩
  | m + 1, hm => by
    obtain ⟨h1, h2⟩ := compactUpTo_rises d n hs m (by omega)
    rw [Lib.compactUpTo_succ]
    by_cases hk : m = 0 ∨ d[m]! ≠ d[m - 1]!
    · have hkeep : Lib.keeps d m = true := by simpa [Lib.keeps] using hk
      rw [if_pos hkeep]
      refine ⟨rises_snoc h1 (fun y hy => ?_), fun x => ?_⟩
      · obtain ⟨j, hj, rfl⟩ := (h2 y).1 hy
        rcases hk with hk | hk
        · omega
        · have a := hs j (m - 1) (by omega) (by omega)
          have b := hs (m - 1) m (by omega) (by omega)
          omega
      · rw [List.mem_append, List.mem_singleton, h2]
        constructor
        · rintro (⟨j, hj, rfl⟩ | rfl)
          · exact ⟨j, by omega, rfl⟩
          · exact ⟨m, by omega, rfl⟩
        · rintro ⟨j, hj, rfl⟩
          rcases Nat.lt_or_ge j m with h | h
          · exact .inl ⟨j, h, rfl⟩
          · obtain rfl : j = m := by omega
            exact .inr rfl
    · have hkeep : Lib.keeps d m = false := by
        have := hk
        simp only [not_or, Classical.not_not] at this
        exact Lib.keeps_neg (by omega) this.2
      rw [hkeep]
      simp only [Bool.false_eq_true, if_false, List.append_nil]
      refine ⟨h1, fun x => ?_⟩
      rw [h2]
      constructor
      · rintro ⟨j, hj, rfl⟩; exact ⟨j, by omega, rfl⟩
      · rintro ⟨j, hj, rfl⟩
        rcases Nat.lt_or_ge j m with h | h
        · exact ⟨j, h, rfl⟩
        · obtain rfl : j = m := by omega
          simp only [not_or, Classical.not_not] at hk
          exact ⟨j - 1, by omega, hk.2.symm⟩
/-- Sorted, and each once. -/
def setup (l : List Int) : List Int := Lib.compact (isort l)
theorem setup_rises (l : List Int) : Rises (setup l) ∧ ∀ x, x ∈ setup l ↔ x ∈ l := by
  have hp := isort_le l
  have hs : ∀ i j, i ≤ j → j < (isort l).length → (isort l).toArray[i]! ≤ (isort l).toArray[j]! := by
    intro i j hij hj
    rcases Nat.lt_or_ge i j with h | h
    · rw [getElem!_pos _ i (by simp; omega), getElem!_pos _ j (by simpa using hj)]
      have := List.pairwise_iff_getElem.1 hp i j (by omega) hj h
      simpa using this
    · obtain rfl : i = j := by omega
      exact Int.le_refl _
  obtain ⟨h1, h2⟩ := compactUpTo_rises (isort l).toArray (isort l).length hs _ (Nat.le_refl _)
  refine ⟨h1, fun x => (h2 x).trans ?_⟩
  rw [← mem_isort (l := l), List.mem_iff_getElem]
  constructor
  · rintro ⟨j, hj, rfl⟩
    exact ⟨j, hj, by rw [getElem!_pos _ j (by simpa using hj)]; simp⟩
  · rintro ⟨j, hj, rfl⟩
    exact ⟨j, hj, by rw [getElem!_pos _ j (by simpa using hj)]; simp⟩
/-- Those that are found looking back: of the first k. -/
def backs (v : List Lnk) : Nat → List Int
  | 0 => []
  | k + 1 => backs v k ++ (match v[k]? with | some a => if (v.take k).any (fun b => decide (Pair a b)) then [a.frm] else [] | none => [])
theorem mem_backs {v : List Lnk} {f : Int} : ∀ k, k ≤ v.length → (f ∈ backs v k ↔ ∃ i, ∃ h : i < v.length, i < k ∧ (∃ x ∈ v.take i, Pair v[i] x) ∧ v[i].frm = f)
  | 0, _ => by simp [backs]
  | k + 1, hk => by
    have hlt : k < v.length := hk
    rw [backs, List.mem_append, mem_backs k (by omega), List.getElem?_eq_getElem hlt]
    simp only [List.any_eq_true, decide_eq_true_eq]
    constructor
    · rintro (⟨i, h, hi, hx⟩ | h)
      · exact ⟨i, h, by omega, hx⟩
      · by_cases hx : ∃ x ∈ v.take k, Pair v[k] x
        · rw [if_pos hx] at h
          simp only [List.mem_singleton] at h
          exact ⟨k, hlt, by omega, hx, h.symm⟩
        · rw [if_neg hx] at h; cases h
    · rintro ⟨i, h, hi, hx, hf⟩
      rcases Nat.lt_or_ge i k with h' | h'
      · exact .inl ⟨i, h, h', hx, hf⟩
      · obtain rfl : i = k := by omega
        exact .inr (by rw [if_pos hx]; simp [hf])
theorem backs_len (v : List Lnk) : ∀ k, (backs v k).length ≤ k
  | 0 => by simp [backs]
  | k + 1 => by
    have := backs_len v k
    rw [backs, List.length_append]
    cases v[k]? with
    | none => simp; omega
    | some a => simp only; split <;> simp <;> omega
/-- Who is guilty. -/
def guiltyL (v : List Lnk) : List Int := setup (backs v v.length)
theorem guiltyL_is (v : List Lnk) : IsGuilty v (guiltyL v) := by
  obtain ⟨h1, h2⟩ := setup_rises (backs v v.length)
  refine ⟨h1, fun f => (h2 f).trans ?_⟩
  rw [mem_backs _ (Nat.le_refl _), guilt_back]
  constructor
  · rintro ⟨i, h, _, hx⟩; exact ⟨i, h, hx⟩
  · rintro ⟨i, h, hx⟩; exact ⟨i, h, h, hx⟩
theorem guiltyL_len (v : List Lnk) : (guiltyL v).length ≤ v.length := by
  have h1 := backs_len v v.length
  have h2 := Lib.compact_length_le (isort (backs v v.length))
  rw [isort_len] at h2
  unfold guiltyL setup
  omega
theorem guiltyL_eq {v : List Lnk} {g : List Int} (h : IsGuilty v g) : g = guiltyL v := guilty_uniq h (guiltyL_is v)
end Go.Proofs.Ytkccakaaklemdaa
