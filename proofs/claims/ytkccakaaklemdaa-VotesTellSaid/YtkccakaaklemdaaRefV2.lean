/- marigoldref07.put, walked. (Printed by gen_put.py.) -/
import Derived.Test.YtkccakaaklemdaaEachP
import Derived.Test.YtkccakaaklemdaaAppend
import Derived.Test.YtkccakaaklemdaaCut
namespace Go.Proofs.Ytkccakaaklemdaa
open Go.RowKit
/-- A slice of ints that comes in, or is a call's own. -/
structure Sl (w : World) (A : Option Addr) (k : Nat) (l : List Int) : Prop where
  rd : Rd 1 encI w A l
  le : l.length ≤ k
  mx : k ≤ maxLen
  nn : A = none → k = 0
  sh : A = none ∨ ∃ b o, A = some ⟨b, o, none⟩
theorem Sl.below {w W : World} {A : Option Addr} {k : Nat} {l : List Int} (h : Sl w A k l) (hb : Below w.heap.size w W) : Sl W A k l := ⟨h.rd.below hb, h.le, h.mx, h.nn, h.sh⟩
theorem sl_nil (w : World) : Sl w none 0 [] := ⟨Rd_nil _ _ _ _, Nat.le_refl _, Nat.zero_le _, fun _ => rfl, .inl rfl⟩
theorem own_sl {w : World} {base : Nat} {v : Value} {xs : List Int} (h : Own w base 3 1 encI v xs) : ∃ A c, v = .slice A xs.length c ∧ Sl w A c xs := by
  obtain ⟨A, c, hv, hc, hmx, hr⟩ := h.rdm encI_len
  refine ⟨A, c, hv, hr, hc, hmx, fun e => ?_, ?_⟩
  · rcases h.2 with ⟨h1, _⟩ | ⟨g, cap, cur, h1, _⟩
    · rw [hv] at h1; injection h1
    · rw [hv, e] at h1; injection h1 with h1 _ _; cases h1
  · rcases h.2 with ⟨h1, _⟩ | ⟨g, cap, cur, h1, _⟩
    · rw [hv] at h1; injection h1 with h1 _ _; exact .inl h1
    · rw [hv] at h1; injection h1 with h1 _ _; exact .inr ⟨g, 0, h1⟩
theorem ilay (w : World) (f : Int) : Below w.heap.size w (w.alloc (.cells #[.int .i64 f] 3)) ∧ (w.alloc (.cells #[.int .i64 f] 3)).heap[w.heap.size]? = some (.cells #[.int .i64 f] 3 (0, 0)) :=
  ⟨(Below.refl _ w).alloc (Nat.le_refl _) _, ha_at rfl⟩
theorem rises_parts {a b : List Int} (h : Rises (a ++ b)) : Rises a ∧ Rises b := by
  induction a with
  | nil => exact ⟨trivial, h⟩
  | cons x a ih => exact ⟨⟨fun y hy => h.1 y (List.mem_append_left _ hy), (ih h.2).1⟩, (ih h.2).2⟩
theorem rises_join {a b : List Int} (ha : Rises a) (hb : Rises b) (h : ∀ x ∈ a, ∀ y ∈ b, x < y) : Rises (a ++ b) := by
  induction a with
  | nil => exact hb
  | cons x a ih =>
    refine ⟨fun y hy => ?_, ih ha.2 (fun z hz => h z (by simp [hz]))⟩
    rcases List.mem_append.1 hy with hy | hy
    · exact ha.1 y hy
    · exact h x (by simp) y hy
/-- What a number put into a list that rises makes of it. -/
def PutOk (l : List Int) (f : Int) (r : List Int) : Prop := Rises r ∧ (∀ g, g ∈ r ↔ g ∈ l ∨ g = f) ∧ r.length ≤ l.length + 1
theorem put_same {l : List Int} {f : Int} (h : Rises l) (hf : f ∈ l) : PutOk l f l := ⟨h, fun g => ⟨.inl, fun e => e.elim id (fun e => e ▸ hf)⟩, by omega⟩
theorem ins_law {l hd rest : List Int} {f : Int} {m : Nat} (hl : l = hd ++ rest) (hr : Rises l) (hm : hd.length = m) (hgt : ∀ j, m ≤ j → (hj : j < l.length) → f < l[j]) (hlt : ∀ j, j < m → (hj : j < l.length) → l[j] < f) :
    PutOk l f (hd ++ [f] ++ rest) := by
  subst hl
  subst hm
  obtain ⟨h1, h2⟩ := rises_parts hr
  refine ⟨rises_join (rises_join h1 ⟨by simp, trivial⟩ ?_) h2 ?_, fun g => ?_, by simp; omega⟩
  · intro a ha b hb
    rw [List.mem_singleton.1 hb]
    obtain ⟨i, hi, rfl⟩ := List.getElem_of_mem ha
    have := hlt i hi (by simp; omega)
    rwa [List.getElem_append_left hi] at this
  · intro a ha b hb
    have hb' : f < b := by
      obtain ⟨i, hi, rfl⟩ := List.getElem_of_mem hb
      have := hgt (hd.length + i) (by omega) (by simp; omega)
      rwa [List.getElem_append_right (by omega), List.getElem_of_eq rfl, show (rest[hd.length + i - hd.length]'(by omega)) = rest[i] from by congr 1; omega] at this
    rcases List.mem_append.1 ha with ha | ha
    · obtain ⟨i, hi, rfl⟩ := List.getElem_of_mem ha
      have := hlt i hi (by simp; omega)
      rw [List.getElem_append_left hi] at this
      omega
    · rw [List.mem_singleton.1 ha]; exact hb'
  · simp only [List.mem_append, List.mem_singleton]
    constructor
    · rintro ((h | h) | h)
      · exact .inl (.inl h)
      · exact .inr h
      · exact .inl (.inr h)
    · rintro ((h | h) | h)
      · exact .inl (.inl h)
      · exact .inr h
      · exact .inl (.inr h)
end Go.Proofs.Ytkccakaaklemdaa
