/- VotesEach: the plain law. -/
import Derived.Test.YtkccakaaklemdaaLaw07a
namespace Go.Proofs.Ytkccakaaklemdaa
def cntV (f : Int) (o : List Vote) : Nat := (o.filter fun x => decide (x.frm = f)).length
def cntI (f : Int) (d : List Int) : Nat := (d.filter fun x => decide (x = f)).length
theorem cntV_snoc (f : Int) {o : List Vote} {k : Nat} (hlt : k < o.length) : cntV f (o.take (k + 1)) = cntV f (o.take k) + (if o[k].frm = f then 1 else 0) := by
  unfold cntV
  rw [List.take_succ_eq_append_getElem hlt, List.filter_append, List.length_append]
  by_cases h : o[k].frm = f <;> simp [h]
theorem cntI_snoc (f : Int) {d : List Int} {k : Nat} (hlt : k < d.length) : cntI f (d.take (k + 1)) = cntI f (d.take k) + (if d[k] = f then 1 else 0) := by
  unfold cntI
  rw [List.take_succ_eq_append_getElem hlt, List.filter_append, List.length_append]
  by_cases h : d[k] = f <;> simp [h]
theorem cntV_len (f : Int) (o : List Vote) (k : Nat) : cntV f (o.take k) ≤ k := by
  unfold cntV
  refine Nat.le_trans (List.length_filter_le _ _) ?_
  simp; omega
theorem cntI_len (f : Int) (d : List Int) (k : Nat) : cntI f (d.take k) ≤ k := by
  unfold cntI
  refine Nat.le_trans (List.length_filter_le _ _) ?_
  simp; omega
theorem one_of {α : Type} (p : α → Bool) : ∀ {l : List α}, (∃ x ∈ l, p x = true) → (∀ i j (hi : i < l.length) (hj : j < l.length), p l[i] = true → p l[j] = true → i = j) → (l.filter p).length = 1
  | [], h, _ => by obtain ⟨x, hx, _⟩ := h; cases hx
  | a :: l, h, hu => by
    by_cases ha : p a = true
    · have : l.filter p = [] := by
        rw [List.filter_eq_nil_iff]
        intro x hx hp
        obtain ⟨j, hj, rfl⟩ := List.getElem_of_mem hx
        have := hu 0 (j + 1) (by simp) (by simpa using hj) (by simpa using ha) (by simpa using hp)
        omega
      rw [List.filter_cons_of_pos ha, this]
      rfl
    · rw [List.filter_cons_of_neg ha]
      refine one_of p ?_ (fun i j hi hj h1 h2 => ?_)
      · obtain ⟨x, hx, hp⟩ := h
        rcases List.mem_cons.1 hx with rfl | hx
        · exact absurd hp ha
        · exact ⟨x, hx, hp⟩
      · have := hu (i + 1) (j + 1) (by simpa using hi) (by simpa using hj) (by simpa using h1) (by simpa using h2)
        omega
theorem rises_inj {d : List Int} (h : Rises d) (i j : Nat) (hi : i < d.length) (hj : j < d.length) (he : d[i] = d[j]) : i = j := by
  rcases Nat.lt_trichotomy i j with h1 | h1 | h1
  · have := rises_le h i j hi hj h1; omega
  · exact h1
  · have := rises_le h j i hj hi h1; omega
theorem each_law {l : List Vote} {v : Vote} (hv : v ∈ l) : cntV v.frm (ofL l v.slot) + cntI v.frm (dblL l v.slot) = 1 ∧ ∀ x ∈ ofL l v.slot, x.frm = v.frm → x = v := by
  have ho := ofL_is l v.slot
  have hd := dblL_is l v.slot
  have hx : ∀ x ∈ ofL l v.slot, x.frm = v.frm → x = v := fun x hx hf => by
    obtain ⟨h1, h2, h3⟩ := (ho.2 x).1 hx
    exact dbl_one h1 hv hf h2 (by rw [h2]; exact h3)
  refine ⟨?_, hx⟩
  by_cases hD : Dbl l v.slot v.frm
  · have h1 : cntV v.frm (ofL l v.slot) = 0 := by
      unfold cntV
      rw [List.length_eq_zero_iff, List.filter_eq_nil_iff]
      intro x hx hp
      simp only [decide_eq_true_eq] at hp
      obtain ⟨_, _, h3⟩ := (ho.2 x).1 hx
      rw [hp] at h3
      exact h3 hD
    have h2 : cntI v.frm (dblL l v.slot) = 1 := one_of _ ⟨v.frm, (hd.2 _).2 hD, by simp⟩ (fun i j hi hj h1 h2 => by
      simp only [decide_eq_true_eq] at h1 h2
      exact rises_inj hd.1 i j hi hj (h1.trans h2.symm))
    omega
  · have h2 : cntI v.frm (dblL l v.slot) = 0 := by
      unfold cntI
      rw [List.length_eq_zero_iff, List.filter_eq_nil_iff]
      intro x hx hp
      simp only [decide_eq_true_eq] at hp
      rw [hp] at hx
      exact hD ((hd.2 _).1 hx)
    have h1 : cntV v.frm (ofL l v.slot) = 1 := one_of _ ⟨v, (ho.2 v).2 ⟨hv, rfl, hD⟩, by simp⟩ (fun i j hi hj h1 h2 => by
      simp only [decide_eq_true_eq] at h1 h2
      rcases Nat.lt_trichotomy i j with h | h | h
      · have := risesV_lt ho.1 i j hi hj h; omega
      · exact h
      · have := risesV_lt ho.1 j i hj hi h; omega)
    omega
end Go.Proofs.Ytkccakaaklemdaa
