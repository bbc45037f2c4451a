/- Slices of a slice: a beginning of an owned one, and what lies behind it. -/
import Derived.Test.YtkccakaaklemdaaAppend
namespace Go.Proofs.Ytkccakaaklemdaa
open Go.RowKit
theorem Own.cut {α : Type} {w : World} {base : Nat} {e : TypeId} {k : Nat} {enc : α → List Value} (hk : ∀ x, (enc x).length = k) {A : Option Addr} {n c : Nat} {xs : List α} (h : Own w base e k enc (.slice A n c) xs) {j : Nat} (hj : j ≤ xs.length) :
    Own w base e k enc (.slice A j c) (xs.take j) := by
  have hl : (xs.take j).length = j := by simp; omega
  refine ⟨flatMap_len hk _, ?_⟩
  rw [hl]
  rcases h.2 with ⟨h1, h2⟩ | ⟨g, cap, cur, h1, hb, hh, hle, hm, hs, ht⟩
  · cases h1
    exact .inl ⟨by congr 1; omega, by omega⟩
  · cases h1
    refine .inr ⟨g, c, cur, rfl, hb, hh, by omega, hm, hs, ?_⟩
    have : xs.flatMap enc = (xs.take j).flatMap enc ++ (xs.drop j).flatMap enc := by rw [← List.flatMap_append, List.take_append_drop]
    have h3 : (cur.toList.take (xs.length * k)).take (j * k) = ((xs.take j).flatMap enc ++ (xs.drop j).flatMap enc).take (j * k) := by rw [ht, this]
    rw [List.take_take, Nat.min_eq_left (Nat.mul_le_mul_right k hj), List.take_left' (by rw [flatMap_len hk, hl])] at h3
    exact h3
theorem Rd.drop {α : Type} {k : Nat} {enc : α → List Value} {w : World} {b o : Nat} {xs : List α} (h : Rd k enc w (some ⟨b, o, none⟩) xs) (n : Nat) : Rd k enc w (some ⟨b, o + n * k, none⟩) (xs.drop n) := by
  refine ⟨by have := h.1; simp; omega, fun hne => ?_⟩
  obtain ⟨b', o', he, hlt, hc⟩ := h.2 (fun e => hne (by rw [e]; simp))
  cases he
  refine ⟨b, _, rfl, hlt, fun i x hx j u hu => ?_⟩
  rw [List.getElem?_drop] at hx
  have := hc (n + i) x hx j u hu
  rw [Nat.add_mul, ← Nat.add_assoc] at this
  exact this
theorem Own.src {α : Type} {w : World} {base : Nat} {e : TypeId} {k : Nat} {enc : α → List Value} {v : Value} {xs : List α} (hk : ∀ x, (enc x).length = k) (h : Own w base e k enc v xs) : ∃ A c, v = .slice A xs.length c ∧ Rd k enc w A xs ∧ (A = none → c = 0) := by
  obtain ⟨A, c, hv, hr⟩ := h.rd hk
  refine ⟨A, c, hv, hr, fun e => ?_⟩
  rcases h.2 with ⟨h1, _⟩ | ⟨g, cap, cur, h1, _⟩
  · rw [hv] at h1; injection h1
  · rw [hv, e] at h1; injection h1 with h1 _ _; cases h1
theorem Own.rdm {α : Type} {w : World} {base : Nat} {e : TypeId} {k : Nat} {enc : α → List Value} {v : Value} {xs : List α} (hk : ∀ x, (enc x).length = k) (h : Own w base e k enc v xs) : ∃ A c, v = .slice A xs.length c ∧ xs.length ≤ c ∧ c ≤ maxLen ∧ Rd k enc w A xs := by
  obtain ⟨A, c, hv, hc, hr⟩ := h.rdc hk
  refine ⟨A, c, hv, hc, ?_, hr⟩
  rcases h.2 with ⟨h1, _⟩ | ⟨g, cap, cur, h1, _, _, _, hm, _⟩
  · rw [hv] at h1; injection h1 with e1 e2 e3; subst e3; decide
  · rw [hv] at h1; injection h1 with e1 e2 e3; subst e3; exact hm
theorem Own.apart {α : Type} {w w' : World} {base : Nat} {e : TypeId} {k : Nat} {enc : α → List Value} {v : Value} {xs : List α} {row : Option Nat} (h : Own w base e k enc v xs) (hg : w.grownBy w' row) {B : Nat} (h1 : ∀ q, v.ownBlock = some q → B ≤ q) (h2 : ∀ q, row = some q → q < B) : Own w' base e k enc v xs := by
  refine World.ownsRow.kept h hg ?_
  cases hq : v.ownBlock with
  | none => exact .inl rfl
  | some q =>
    refine .inr (fun e => ?_)
    have a := h1 q hq
    have b := h2 q e.symm
    omega
end Go.Proofs.Ytkccakaaklemdaa
