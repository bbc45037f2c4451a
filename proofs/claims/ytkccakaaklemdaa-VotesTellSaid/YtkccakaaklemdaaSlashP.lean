/- Votes that nobody may have both (the plain law). -/
import Derived.Test.YtkccakaaklemdaaBase
namespace Go.Proofs.Ytkccakaaklemdaa
structure Chk where
  epoch : Int
  root : ID
  deriving DecidableEq
structure Lnk where
  frm : Int
  src : Chk
  tgt : Chk
  deriving DecidableEq
def encLnk (x : Lnk) : List Value := [.int .i64 x.frm, .int .i64 x.src.epoch, .int .u64 x.src.root.hi, .int .u64 x.src.root.lo, .int .i64 x.tgt.epoch, .int .u64 x.tgt.root.hi, .int .u64 x.tgt.root.lo]
def lnkv (x : Lnk) : Value := .agg #[.int .i64 x.frm, .int .i64 x.src.epoch, .int .u64 x.src.root.hi, .int .u64 x.src.root.lo, .int .i64 x.tgt.epoch, .int .u64 x.tgt.root.hi, .int .u64 x.tgt.root.lo]
def Spans (a b : Lnk) : Prop := a.src.epoch < b.src.epoch ∧ b.tgt.epoch < a.tgt.epoch
def Pair (a b : Lnk) : Prop := a.frm = b.frm ∧ (Spans a b ∨ Spans b a ∨ (a ≠ b ∧ a.tgt.epoch = b.tgt.epoch))
instance (a b : Lnk) : Decidable (Spans a b) := by unfold Spans; exact inferInstance
instance (a b : Lnk) : Decidable (Pair a b) := by unfold Pair; exact inferInstance
theorem pair_symm {a b : Lnk} : Pair a b ↔ Pair b a := by
  unfold Pair
  constructor
  · rintro ⟨h, h1 | h1 | ⟨h1, h2⟩⟩
    · exact ⟨h.symm, .inr (.inl h1)⟩
    · exact ⟨h.symm, .inl h1⟩
    · exact ⟨h.symm, .inr (.inr ⟨fun e => h1 e.symm, h2.symm⟩)⟩
  · rintro ⟨h, h1 | h1 | ⟨h1, h2⟩⟩
    · exact ⟨h.symm, .inr (.inl h1)⟩
    · exact ⟨h.symm, .inl h1⟩
    · exact ⟨h.symm, .inr (.inr ⟨fun e => h1 e.symm, h2.symm⟩)⟩
theorem pair_irrefl (a : Lnk) : ¬ Pair a a := by
  rintro ⟨_, h1 | h1 | ⟨h1, _⟩⟩
  · unfold Spans at h1; omega
  · unfold Spans at h1; omega
  · exact h1 rfl
/-- f has two such. -/
def Guilt (v : List Lnk) (f : Int) : Prop := ∃ x ∈ v, ∃ y ∈ v, Pair x y ∧ x.frm = f
/-- The numbers rise. -/
def Rises : List Int → Prop
  | [] => True
  | x :: xs => (∀ y ∈ xs, x < y) ∧ Rises xs
def IsGuilty (v : List Lnk) (g : List Int) : Prop := Rises g ∧ ∀ f, f ∈ g ↔ Guilt v f
theorem rises_uniq : ∀ {g h : List Int}, Rises g → Rises h → (∀ f, f ∈ g ↔ f ∈ h) → g = h
  | [], [], _, _, _ => rfl
  | [], y :: ys, _, _, e => by have := (e y).2 (by simp); simp at this
  | x :: xs, [], _, _, e => by have := (e x).1 (by simp); simp at this
  | x :: xs, y :: ys, hg, hh, e => by
    have hxy : x = y := by
      have h1 := (e x).1 (by simp)
      have h2 := (e y).2 (by simp)
      simp only [List.mem_cons] at h1 h2
      rcases h1 with h1 | h1
      · exact h1
      · rcases h2 with h2 | h2
        · exact h2.symm
        · have := hh.1 x h1; have := hg.1 y h2; omega
    subst hxy
    congr 1
    refine rises_uniq hg.2 hh.2 (fun f => ?_)
    constructor
    · intro hf
      have := (e f).1 (by simp [hf])
      simp only [List.mem_cons] at this
      rcases this with h | h
      · subst h; have := hg.1 f hf; omega
      · exact h
    · intro hf
      have := (e f).2 (by simp [hf])
      simp only [List.mem_cons] at this
      rcases this with h | h
      · subst h; have := hh.1 f hf; omega
      · exact h
theorem guilty_uniq {v : List Lnk} {g h : List Int} (hg : IsGuilty v g) (hh : IsGuilty v h) : g = h := rises_uniq hg.1 hh.1 (fun f => (hg.2 f).trans (hh.2 f).symm)
/-- Who is found by looking back only. -/
theorem guilt_back (v : List Lnk) (f : Int) : Guilt v f ↔ ∃ i, ∃ h : i < v.length, (∃ x ∈ v.take i, Pair v[i] x) ∧ v[i].frm = f := by
  constructor
  · rintro ⟨x, hx, y, hy, hp, hf⟩
    obtain ⟨i, hi, rfl⟩ := List.getElem_of_mem hx
    obtain ⟨j, hj, rfl⟩ := List.getElem_of_mem hy
    rcases Nat.lt_trichotomy i j with h | h | h
    · exact ⟨j, hj, ⟨v[i], List.mem_take_iff_getElem.2 ⟨i, by omega, rfl⟩, pair_symm.1 hp⟩, by rw [← hf]; exact hp.1.symm⟩
    · subst h; exact absurd hp (pair_irrefl _)
    · exact ⟨i, hi, ⟨v[j], List.mem_take_iff_getElem.2 ⟨j, by omega, rfl⟩, hp⟩, hf⟩
  · rintro ⟨i, hi, ⟨x, hx, hp⟩, hf⟩
    exact ⟨v[i], List.getElem_mem hi, x, List.mem_of_mem_take hx, hp, hf⟩
theorem guilt_more {v : List Lnk} {a : Lnk} {f : Int} (h : Guilt v f) : Guilt (v ++ [a]) f := by
  obtain ⟨x, hx, y, hy, hp, hf⟩ := h
  exact ⟨x, by simp [hx], y, by simp [hy], hp, hf⟩
theorem guilt_new {v : List Lnk} {a : Lnk} {f : Int} (h : Guilt (v ++ [a]) f) : Guilt v f ∨ f = a.frm := by
  obtain ⟨x, hx, y, hy, hp, hf⟩ := h
  rw [List.mem_append, List.mem_singleton] at hx hy
  rcases hx with hx | rfl
  · rcases hy with hy | rfl
    · exact .inl ⟨x, hx, y, hy, hp, hf⟩
    · exact .inr (by rw [← hf]; exact hp.1)
  · exact .inr hf.symm
theorem guilt_twice {a : Lnk} {f : Int} : ¬ Guilt [a, a] f := by
  rintro ⟨x, hx, y, hy, hp, _⟩
  simp at hx hy
  subst hx
  subst hy
  exact pair_irrefl _ hp
/-- Only one's own votes count. -/
theorem guilt_own {v : List Lnk} {w f : Int} : Guilt (v.filter (fun x => decide (x.frm = w))) f ↔ Guilt v f ∧ f = w := by
  constructor
  · rintro ⟨x, hx, y, hy, hp, hf⟩
    simp only [List.mem_filter, decide_eq_true_eq] at hx hy
    exact ⟨⟨x, hx.1, y, hy.1, hp, hf⟩, by rw [← hf]; exact hx.2⟩
  · rintro ⟨⟨x, hx, y, hy, hp, hf⟩, rfl⟩
    refine ⟨x, ?_, y, ?_, hp, hf⟩
    · simp only [List.mem_filter, decide_eq_true_eq]; exact ⟨hx, hf⟩
    · simp only [List.mem_filter, decide_eq_true_eq]; exact ⟨hy, by rw [← hf]; exact hp.1.symm⟩
theorem own_one {v : List Lnk} {w : Int} {g n : List Int} (hg : IsGuilty v g) (hn : IsGuilty (v.filter (fun x => decide (x.frm = w))) n) : n = if w ∈ g then [w] else [] := by
  by_cases h : w ∈ g
  · rw [if_pos h]
    refine rises_uniq hn.1 ⟨by simp, trivial⟩ (fun f => ?_)
    rw [hn.2, guilt_own, List.mem_singleton, ← hg.2]
    constructor
    · exact fun h => h.2
    · rintro rfl; exact ⟨h, rfl⟩
  · rw [if_neg h]
    refine rises_uniq hn.1 trivial (fun f => ?_)
    rw [hn.2, guilt_own, ← hg.2]
    simp only [List.not_mem_nil, iff_false]
    rintro ⟨h1, rfl⟩
    exact h h1
/-- Who has but one vote is not guilty. -/
theorem own_two {v : List Lnk} {w : Int} (h : Guilt v w) : 1 < (v.filter (fun x => decide (x.frm = w))).length := by
  obtain ⟨x, hx, y, hy, hp, hf⟩ := (guilt_own (w := w) (f := w)).2 ⟨h, rfl⟩
  generalize v.filter (fun x => decide (x.frm = w)) = l at hx hy
  match l, hx, hy with
  | [], hx, _ => simp at hx
  | [a], hx, hy =>
    simp at hx hy
    subst hx
    subst hy
    exact absurd hp (pair_irrefl _)
  | a :: b :: r, _, _ => simp
/-! The insertion of one more into rising numbers, and what sorting and dropping doubles leaves. -/
theorem rises_le {g : List Int} (h : Rises g) : ∀ i j (hi : i < g.length) (hj : j < g.length), i < j → g[i] < g[j] := by
  induction g with
  | nil => intro i j hi; simp at hi
  | cons x xs ih =>
    intro i j hi hj hij
    cases j with
    | zero => omega
    | succ j =>
      cases i with
      | zero => exact h.1 _ (List.getElem_mem _)
      | succ i => exact ih h.2 i j (by simpa using hi) (by simpa using hj) (by omega)
theorem rises_of {g : List Int} (h : ∀ i (hi : i + 1 < g.length), g[i] < g[i + 1]) : Rises g := by
  induction g with
  | nil => trivial
  | cons x xs ih =>
    have hr : Rises xs := ih (fun i hi => by have := h (i + 1) (by simpa using hi); simpa using this)
    refine ⟨fun y hy => ?_, hr⟩
    obtain ⟨k, hk, rfl⟩ := List.getElem_of_mem hy
    have h0 := h 0 (by simp; omega)
    simp only [List.getElem_cons_zero, List.getElem_cons_succ] at h0
    cases k with
    | zero => exact h0
    | succ k =>
      have := rises_le hr 0 (k + 1) (by omega) hk (by omega)
      omega
end Go.Proofs.Ytkccakaaklemdaa
