/- Two slices of a call's own that do not share. -/
import Derived.Test.YtibmfpcbjopojaaGD
namespace Go.Proofs.Ytibmfpcbjopojaa
def Apart2 (u v : Value) : Prop := ∀ k, u.ownBlock = some k → v.ownBlock ≠ some k
theorem Apart2.symm {u v : Value} (h : Apart2 u v) : Apart2 v u := fun k h1 h2 => h k h2 h1
theorem Apart2.row {u v : Value} (h : Apart2 u v) : u.ownBlock = none ∨ v.ownBlock ≠ u.ownBlock := by
  cases hu : u.ownBlock with
  | none => exact .inl rfl
  | some k => exact .inr (h k hu)
theorem Apart2.grow {u u' v : Value} {w : World} (h : Apart2 u v) (hu : u'.ownBlock = u.ownBlock ∨ u'.ownBlock = some w.heap.size) (hv : ∀ k, v.ownBlock = some k → k < w.heap.size) : Apart2 u' v := fun k h1 h2 => by
  rcases hu with e | e
  · exact h k (e.symm.trans h1) h2
  · rw [e] at h1; cases h1; have := hv _ h2; omega
theorem apart_nil (u : Value) : Apart2 (.slice none 0 0) u := fun k h => by simp [Value.ownBlock] at h
theorem Own.row2 {α : Type} {w w' : World} {base : Nat} {e : TypeId} {k : Nat} {enc : α → List Value} {u v : Value} {xs : List α} (h : Own w base e k enc v xs) (hg : w.grownBy w' u.ownBlock) (ha : Apart2 u v) : Own w' base e k enc v xs := by
  rcases ha.row with e' | e'
  · exact h.grown hg (.inl e')
  · exact h.grown hg (.inr e')
/-! What counts looks at which votes there are, no more. -/
theorem ofL_congr {l m : List Vote} (h : ∀ x, x ∈ l ↔ x ∈ m) (s : Int) : ofL l s = ofL m s :=
  ofL_eq ⟨(ofL_is l s).1, fun v => by rw [(ofL_is l s).2 v]; unfold InOf; rw [h v, dbl_congr h]⟩
theorem lastL_congr {l m : List Vote} (h : ∀ x, x ∈ l ↔ x ∈ m) (u : Int) : lastL l u = lastL m u :=
  lastL_eq ⟨(lastL_is l u).1, fun v => by rw [(lastL_is l u).2 v]; unfold InLast; simp only [h, dbl_congr h]⟩
theorem dblL_congr {l m : List Vote} (h : ∀ x, x ∈ l ↔ x ∈ m) (s : Int) : dblL l s = dblL m s :=
  dblL_eq ⟨(dblL_is l s).1, fun f => by rw [(dblL_is l s).2 f, dbl_congr h]⟩
def ownS (l : List Vote) (s : Int) : List Vote := l.filter fun x => x.slot == s
def uptoS (l : List Vote) (s : Int) : List Vote := l.filter fun x => decide (x.slot ≤ s)
theorem mem_ownS {l : List Vote} {s : Int} {x : Vote} : x ∈ ownS l s ↔ x ∈ l ∧ x.slot = s := by simp [ownS]
theorem mem_uptoS {l : List Vote} {s : Int} {x : Vote} : x ∈ uptoS l s ↔ x ∈ l ∧ x.slot ≤ s := by simp [uptoS]
theorem dbl_own {l : List Vote} {s f : Int} : Dbl (ownS l s) s f ↔ Dbl l s f := by
  constructor
  · exact dbl_mono fun x hx => (mem_ownS.1 hx).1
  · rintro ⟨x, hx, y, hy, h1, h2, h3, h4, h5⟩
    exact ⟨x, mem_ownS.2 ⟨hx, h3⟩, y, mem_ownS.2 ⟨hy, h4⟩, h1, h2, h3, h4, h5⟩
theorem dbl_upto {l : List Vote} {s u f : Int} (h : s ≤ u) : Dbl (uptoS l u) s f ↔ Dbl l s f := by
  constructor
  · exact dbl_mono fun x hx => (mem_uptoS.1 hx).1
  · rintro ⟨x, hx, y, hy, h1, h2, h3, h4, h5⟩
    exact ⟨x, mem_uptoS.2 ⟨hx, by omega⟩, y, mem_uptoS.2 ⟨hy, by omega⟩, h1, h2, h3, h4, h5⟩
theorem ofL_own (l : List Vote) (s : Int) : ofL (ownS l s) s = ofL l s :=
  ofL_eq ⟨(ofL_is _ s).1, fun v => by
    rw [(ofL_is _ s).2 v]
    unfold InOf
    rw [mem_ownS, dbl_own]
    exact ⟨fun ⟨⟨h1, _⟩, h3, h4⟩ => ⟨h1, h3, h4⟩, fun ⟨h1, h3, h4⟩ => ⟨⟨h1, h3⟩, h3, h4⟩⟩⟩
theorem dblL_own (l : List Vote) (s : Int) : dblL (ownS l s) s = dblL l s :=
  dblL_eq ⟨(dblL_is _ s).1, fun f => by rw [(dblL_is _ s).2 f, dbl_own]⟩
theorem lastL_upto (l : List Vote) (u : Int) : lastL (uptoS l u) u = lastL l u :=
  lastL_eq ⟨(lastL_is _ u).1, fun v => by
    rw [(lastL_is _ u).2 v]
    unfold InLast
    constructor
    · rintro ⟨h1, h2, h3, h4⟩
      exact ⟨(mem_uptoS.1 h1).1, h2, fun y hy hf hu => h3 y (mem_uptoS.2 ⟨hy, hu⟩) hf hu, fun y hy hf hu hd => h4 y (mem_uptoS.2 ⟨hy, hu⟩) hf hu ((dbl_upto hu).2 hd)⟩
    · rintro ⟨h1, h2, h3, h4⟩
      exact ⟨mem_uptoS.2 ⟨h1, h2⟩, h2, fun y hy hf hu => h3 y (mem_uptoS.1 hy).1 hf hu, fun y hy hf hu hd => h4 y (mem_uptoS.1 hy).1 hf hu ((dbl_upto hu).1 hd)⟩⟩
theorem ownS_snoc (l : List Vote) (s : Int) {k : Nat} (h : k < l.length) : ownS (l.take (k + 1)) s = ownS (l.take k) s ++ (if l[k].slot = s then [l[k]] else []) := by
  unfold ownS
  rw [List.take_succ_eq_append_getElem h, List.filter_append]
  by_cases e : l[k].slot = s <;> simp [e]
theorem uptoS_snoc (l : List Vote) (s : Int) {k : Nat} (h : k < l.length) : uptoS (l.take (k + 1)) s = uptoS (l.take k) s ++ (if l[k].slot ≤ s then [l[k]] else []) := by
  unfold uptoS
  rw [List.take_succ_eq_append_getElem h, List.filter_append]
  by_cases e : l[k].slot ≤ s <;> simp [e]
theorem ownS_len (l : List Vote) (s : Int) : (ownS l s).length ≤ l.length := List.length_filter_le _ _
theorem uptoS_len (l : List Vote) (s : Int) : (uptoS l s).length ≤ l.length := List.length_filter_le _ _
end Go.Proofs.Ytibmfpcbjopojaa
