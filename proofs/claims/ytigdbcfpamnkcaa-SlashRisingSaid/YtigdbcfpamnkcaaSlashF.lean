/- marigoldref12.Guilty: the plain parts. -/
import Derived.Test.YtigdbcfpamnkcaaSlashE
import Derived.Test.YtigdbcfpamnkcaaCut
namespace Go.Proofs.Ytigdbcfpamnkcaa
/-- Found among the first k. -/
def Found (v : List Lnk) (k : Nat) (f : Int) : Prop := ∃ i, ∃ h : i < v.length, i < k ∧ (∃ y ∈ v, Pair v[i] y) ∧ v[i].frm = f
theorem found_zero (v : List Lnk) (f : Int) : ¬ Found v 0 f := by rintro ⟨i, h, hi, _⟩; omega
theorem found_all (v : List Lnk) (f : Int) : Found v v.length f ↔ Guilt v f := by
  constructor
  · rintro ⟨i, h, _, ⟨y, hy, hp⟩, hf⟩; exact ⟨v[i], List.getElem_mem h, y, hy, hp, hf⟩
  · rintro ⟨x, hx, y, hy, hp, hf⟩
    obtain ⟨i, h, rfl⟩ := List.getElem_of_mem hx
    exact ⟨i, h, h, ⟨y, hy, hp⟩, hf⟩
theorem found_succ {v : List Lnk} {k : Nat} (hlt : k < v.length) (f : Int) : Found v (k + 1) f ↔ Found v k f ∨ ((∃ y ∈ v, Pair v[k] y) ∧ v[k].frm = f) := by
  constructor
  · rintro ⟨i, h, hi, hx, hf⟩
    rcases Nat.lt_or_ge i k with h' | h'
    · exact .inl ⟨i, h, h', hx, hf⟩
    · obtain rfl : i = k := by omega
      exact .inr ⟨hx, hf⟩
  · rintro (⟨i, h, hi, hx, hf⟩ | ⟨hx, hf⟩)
    · exact ⟨i, h, by omega, hx, hf⟩
    · exact ⟨k, hlt, by omega, hx, hf⟩
theorem rises_app {a b : List Int} (ha : Rises a) (hb : Rises b) (h : ∀ x ∈ a, ∀ y ∈ b, x < y) : Rises (a ++ b) := by
  induction a with
  | nil => exact hb
  | cons x a ih =>
    refine ⟨fun y hy => ?_, ih ha.2 (fun z hz => h z (by simp [hz]))⟩
    rcases List.mem_append.1 hy with hy | hy
    · exact ha.1 y hy
    · exact h x (by simp) y hy
theorem rises_take {l : List Int} (h : Rises l) (n : Nat) : Rises (l.take n) :=
  rises_of fun i hi => by
    have hi' : i + 1 < l.length := by simp at hi; omega
    simp only [List.getElem_take]
    exact rises_le h i (i + 1) (by omega) hi' (by omega)
theorem rises_drop {l : List Int} (h : Rises l) (n : Nat) : Rises (l.drop n) :=
  rises_of fun i hi => by
    have hi' : n + (i + 1) < l.length := by simp at hi; omega
    simp only [List.getElem_drop]
    exact rises_le h (n + i) (n + (i + 1)) (by omega) hi' (by omega)
theorem ins_rises {out : List Int} {x : Int} {m : Nat} (h : Rises out) (hm : m ≤ out.length) (hgt : ∀ j, m ≤ j → (hj : j < out.length) → x < out[j]) (hle : ∀ j, (hj : j < out.length) → j < m → out[j] < x) :
    Rises (out.take m ++ [x] ++ out.drop m) ∧ ∀ f, f ∈ out.take m ++ [x] ++ out.drop m ↔ f ∈ out ∨ x = f := by
  constructor
  · refine rises_app (rises_app (rises_take h m) ⟨by simp, trivial⟩ ?_) (rises_drop h m) ?_
    · intro a ha b hb
      simp only [List.mem_singleton] at hb
      subst hb
      obtain ⟨i, hi, rfl⟩ := List.mem_take_iff_getElem.1 ha
      exact hle i (by omega) (by omega)
    · intro a ha b hb
      have hb' : x < b := by
        obtain ⟨i, hi, rfl⟩ := List.mem_iff_getElem.1 hb
        simp only [List.getElem_drop]
        exact hgt _ (by omega) (by simp at hi; omega)
      rcases List.mem_append.1 ha with ha | ha
      · obtain ⟨i, hi, rfl⟩ := List.mem_take_iff_getElem.1 ha
        have := hle i (by omega) (by omega)
        omega
      · simp only [List.mem_singleton] at ha; subst ha; exact hb'
  · intro f
    rw [List.mem_append, List.mem_append, List.mem_singleton]
    have : f ∈ out ↔ f ∈ out.take m ∨ f ∈ out.drop m := by rw [← List.mem_append, List.take_append_drop]
    rw [this]
    constructor
    · rintro ((h | h) | h)
      · exact .inl (.inl h)
      · exact .inr h.symm
      · exact .inl (.inr h)
    · rintro ((h | h) | h)
      · exact .inl (.inl h)
      · exact .inr h
      · exact .inl (.inr h.symm)
/-- What is behind the place is greater, and what is ahead of it no greater. -/
def AtP (out : List Int) (x : Int) (m : Nat) : Prop := ∀ j, m ≤ j → (hj : j < out.length) → x < out[j]
theorem atP_len (out : List Int) (x : Int) : AtP out x out.length := fun j h hj => by omega
theorem atP_step {out : List Int} {x : Int} {m : Nat} (hm : m < out.length) (h : AtP out x (m + 1)) (hx : x < out[m]) : AtP out x m := fun j hj hjl => by
  rcases Nat.lt_or_ge m j with h1 | h1
  · exact h j h1 hjl
  · obtain rfl : j = m := by omega
    exact hx
theorem lt_of_prev {out : List Int} {x : Int} {m : Nat} (h : Rises out) (hm : m < out.length) (hx : out[m] < x) : ∀ j, (hj : j < out.length) → j < m + 1 → out[j] < x := fun j hj hjm => by
  rcases Nat.lt_or_ge j m with h1 | h1
  · have := rises_le h j m hj hm h1; omega
  · obtain rfl : j = m := by omega
    exact hx
/-- The relation of the reference's loop. -/
def GR (v : List Lnk) (k : Nat) (out : List Int) : Prop := Rises out ∧ (∀ f, f ∈ out ↔ Found v k f) ∧ out.length ≤ k
theorem gr_zero (v : List Lnk) : GR v 0 [] := ⟨trivial, fun f => by simp [found_zero], by simp⟩
theorem gr_end {v : List Lnk} {out : List Int} (h : GR v v.length out) : out = guiltyL v := guiltyL_eq ⟨h.1, fun f => (h.2.1 f).trans (found_all v f)⟩
theorem gr_no {v : List Lnk} {k : Nat} {out : List Int} (hlt : k < v.length) (h : GR v k out) (hn : v.any (fun y => decide (Pair v[k] y)) = false) : GR v (k + 1) out := by
  refine ⟨h.1, fun f => ?_, by have := h.2.2; omega⟩
  rw [h.2.1, found_succ hlt]
  constructor
  · exact .inl
  · rintro (h | ⟨⟨y, hy, hp⟩, _⟩)
    · exact h
    · rw [List.any_eq_false] at hn
      exact absurd (by simpa using hp) (hn y hy)
theorem gr_have {v : List Lnk} {k m : Nat} {out : List Int} (hlt : k < v.length) (h : GR v k out) (hm : m < out.length) (he : out[m] = v[k].frm) : GR v (k + 1) out := by
  refine ⟨h.1, fun f => ?_, by have := h.2.2; omega⟩
  rw [found_succ hlt, ← h.2.1]
  constructor
  · exact .inl
  · rintro (h | ⟨_, rfl⟩)
    · exact h
    · rw [← he]; exact List.getElem_mem hm
theorem gr_ins {v : List Lnk} {k m : Nat} {out : List Int} (hlt : k < v.length) (h : GR v k out) (hy : v.any (fun y => decide (Pair v[k] y)) = true) (hm : m ≤ out.length) (hgt : AtP out v[k].frm m) (hle : ∀ j, (hj : j < out.length) → j < m → out[j] < v[k].frm) :
    GR v (k + 1) (out.take m ++ [v[k].frm] ++ out.drop m) := by
  obtain ⟨h1, h2⟩ := ins_rises h.1 hm hgt hle
  refine ⟨h1, fun f => ?_, by have := h.2.2; simp; omega⟩
  rw [h2, found_succ hlt, h.2.1]
  have : ∃ y ∈ v, Pair v[k] y := by
    obtain ⟨y, hy, hp⟩ := List.any_eq_true.1 hy
    exact ⟨y, hy, by simpa using hp⟩
  constructor
  · rintro (h | h)
    · exact .inl h
    · exact .inr ⟨this, h⟩
  · rintro (h | ⟨_, h⟩)
    · exact .inl h
    · exact .inr h
end Go.Proofs.Ytigdbcfpamnkcaa
