/- Votes that count (the plain law). -/
import Derived.Test.YtkccakaaklemdaaSlashQ
namespace Go.Proofs.Ytkccakaaklemdaa
/-- f has two votes of slot s, of different heads. -/
def Dbl (l : List Vote) (s f : Int) : Prop := ∃ x ∈ l, ∃ y ∈ l, x.frm = f ∧ y.frm = f ∧ x.slot = s ∧ y.slot = s ∧ x.head ≠ y.head
instance instDbl (l : List Vote) (s f : Int) : Decidable (Dbl l s f) := by unfold Dbl; exact inferInstance
theorem dbl_mem {l : List Vote} {s f : Int} (h : Dbl l s f) : ∃ x ∈ l, x.frm = f ∧ x.slot = s := by
  obtain ⟨x, hx, _, _, h1, _, h2, _⟩ := h
  exact ⟨x, hx, h1, h2⟩
theorem dbl_mono {l m : List Vote} (h : ∀ x ∈ l, x ∈ m) {s f : Int} (hd : Dbl l s f) : Dbl m s f := by
  obtain ⟨x, hx, y, hy, r⟩ := hd
  exact ⟨x, h x hx, y, h y hy, r⟩
theorem dbl_congr {l m : List Vote} (h : ∀ x, x ∈ l ↔ x ∈ m) {s f : Int} : Dbl l s f ↔ Dbl m s f := ⟨dbl_mono fun x hx => (h x).1 hx, dbl_mono fun x hx => (h x).2 hx⟩
/-- Who are not double have one head a slot. -/
theorem dbl_one {l : List Vote} {x y : Vote} (hx : x ∈ l) (hy : y ∈ l) (hf : x.frm = y.frm) (hs : x.slot = y.slot) (h : ¬ Dbl l x.slot x.frm) : x = y := by
  have : x.head = y.head := Classical.byContradiction fun hne => h ⟨x, hx, y, hy, rfl, hf.symm, rfl, hs.symm, hne⟩
  obtain ⟨a, b, c⟩ := x
  obtain ⟨a', b', c'⟩ := y
  simp only at hf hs this
  subst hf hs this
  rfl
def RisesV (o : List Vote) : Prop := Rises (o.map (·.frm))
theorem risesV_uniq : ∀ {a b : List Vote}, RisesV a → RisesV b → (∀ v, v ∈ a ↔ v ∈ b) → a = b
  | [], [], _, _, _ => rfl
  | [], y :: ys, _, _, e => by have := (e y).2 (by simp); simp at this
  | x :: xs, [], _, _, e => by have := (e x).1 (by simp); simp at this
  | x :: xs, y :: ys, ha, hb, e => by
    have ha1 : ∀ z ∈ xs, x.frm < z.frm := fun z hz => ha.1 _ (List.mem_map_of_mem hz)
    have hb1 : ∀ z ∈ ys, y.frm < z.frm := fun z hz => hb.1 _ (List.mem_map_of_mem hz)
    have hxy : x = y := by
      have h1 := (e x).1 (by simp)
      have h2 := (e y).2 (by simp)
      simp only [List.mem_cons] at h1 h2
      rcases h1 with h1 | h1
      · exact h1
      · rcases h2 with h2 | h2
        · exact h2.symm
        · have := hb1 x h1; have := ha1 y h2; omega
    subst hxy
    congr 1
    refine risesV_uniq ha.2 hb.2 (fun v => ?_)
    constructor
    · intro hv
      have := (e v).1 (by simp [hv])
      simp only [List.mem_cons] at this
      rcases this with h | h
      · subst h; have := ha1 v hv; omega
      · exact h
    · intro hv
      have := (e v).2 (by simp [hv])
      simp only [List.mem_cons] at this
      rcases this with h | h
      · subst h; have := hb1 v hv; omega
      · exact h
theorem risesV_lt {o : List Vote} (h : RisesV o) (i j : Nat) (hi : i < o.length) (hj : j < o.length) (hij : i < j) : o[i].frm < o[j].frm := by
  have := rises_le h i j (by simpa using hi) (by simpa using hj) hij
  simpa using this
theorem risesV_inj {o : List Vote} (h : RisesV o) {x y : Vote} (hx : x ∈ o) (hy : y ∈ o) (hf : x.frm = y.frm) : x = y := by
  obtain ⟨i, hi, rfl⟩ := List.getElem_of_mem hx
  obtain ⟨j, hj, rfl⟩ := List.getElem_of_mem hy
  rcases Nat.lt_trichotomy i j with h1 | h1 | h1
  · have := risesV_lt h i j hi hj h1; omega
  · subst h1; rfl
  · have := risesV_lt h j i hj hi h1; omega
/-- The votes of slot s that count. -/
def InOf (l : List Vote) (s : Int) (v : Vote) : Prop := v ∈ l ∧ v.slot = s ∧ ¬ Dbl l s v.frm
/-- The last votes up to slot u that count. -/
def InLast (l : List Vote) (u : Int) (v : Vote) : Prop :=
  v ∈ l ∧ v.slot ≤ u ∧ (∀ y ∈ l, y.frm = v.frm → y.slot ≤ u → y.slot ≤ v.slot) ∧ ∀ y ∈ l, y.frm = v.frm → y.slot ≤ u → ¬ Dbl l y.slot v.frm
def IsOf (l : List Vote) (s : Int) (o : List Vote) : Prop := RisesV o ∧ ∀ v, v ∈ o ↔ InOf l s v
def IsLast (l : List Vote) (u : Int) (o : List Vote) : Prop := RisesV o ∧ ∀ v, v ∈ o ↔ InLast l u v
def IsDbl (l : List Vote) (s : Int) (d : List Int) : Prop := Rises d ∧ ∀ f, f ∈ d ↔ Dbl l s f
def insV (v : Vote) : List Vote → List Vote
  | [] => [v]
  | x :: xs => if v.frm < x.frm then v :: x :: xs else if v.frm = x.frm then x :: xs else x :: insV v xs
theorem insV_is (v : Vote) : ∀ o : List Vote, RisesV o → (∀ x ∈ o, x.frm = v.frm → x = v) → RisesV (insV v o) ∧ ∀ z, z ∈ insV v o ↔ z = v ∨ z ∈ o
  | [], _, _ => ⟨⟨by simp, trivial⟩, by simp [insV]⟩
  | x :: xs, h, hu => by
    have hx1 : ∀ z ∈ xs, x.frm < z.frm := fun z hz => h.1 _ (List.mem_map_of_mem hz)
    unfold insV
    by_cases h1 : v.frm < x.frm
    · rw [if_pos h1]
      refine ⟨⟨fun y hy => ?_, h⟩, by simp⟩
      simp only [List.map_cons, List.mem_cons] at hy
      rcases hy with rfl | hy
      · exact h1
      · obtain ⟨z, hz, rfl⟩ := List.mem_map.1 hy
        have := hx1 z hz
        show v.frm < z.frm
        omega
    · rw [if_neg h1]
      by_cases h2 : v.frm = x.frm
      · rw [if_pos h2]
        have := hu x (by simp) h2.symm
        subst this
        exact ⟨h, fun z => by simp⟩
      · rw [if_neg h2]
        obtain ⟨i1, i2⟩ := insV_is v xs h.2 (fun y hy => hu y (by simp [hy]))
        refine ⟨⟨fun y hy => ?_, i1⟩, fun z => ?_⟩
        · obtain ⟨z, hz, rfl⟩ := List.mem_map.1 hy
          show x.frm < z.frm
          rcases (i2 z).1 hz with rfl | hz
          · omega
          · exact hx1 z hz
        · rw [List.mem_cons, i2, List.mem_cons]
          constructor
          · rintro (h | h | h)
            · exact .inr (.inl h)
            · exact .inl h
            · exact .inr (.inr h)
          · rintro (h | h | h)
            · exact .inr (.inl h)
            · exact .inl h
            · exact .inr (.inr h)
def setV (l : List Vote) : List Vote := l.foldr insV []
theorem setV_is : ∀ l : List Vote, (∀ x ∈ l, ∀ y ∈ l, x.frm = y.frm → x = y) → RisesV (setV l) ∧ ∀ z, z ∈ setV l ↔ z ∈ l
  | [], _ => ⟨trivial, by simp [setV]⟩
  | v :: l, h => by
    obtain ⟨i1, i2⟩ := setV_is l (fun x hx y hy => h x (by simp [hx]) y (by simp [hy]))
    obtain ⟨j1, j2⟩ := insV_is v (setV l) i1 (fun x hx he => h x (by simp [(i2 x).1 hx]) v (by simp) he)
    exact ⟨j1, fun z => (j2 z).trans (by rw [i2, List.mem_cons])⟩
instance instInOf (l : List Vote) (s : Int) (v : Vote) : Decidable (InOf l s v) := by unfold InOf; exact inferInstance
instance instInLast (l : List Vote) (u : Int) (v : Vote) : Decidable (InLast l u v) := by unfold InLast; exact inferInstance
def ofL (l : List Vote) (s : Int) : List Vote := setV (l.filter fun v => decide (InOf l s v))
def lastL (l : List Vote) (u : Int) : List Vote := setV (l.filter fun v => decide (InLast l u v))
def dblL (l : List Vote) (s : Int) : List Int := setup ((l.filter fun v => decide (v.slot = s ∧ Dbl l s v.frm)).map (·.frm))
theorem inOf_uniq {l : List Vote} {s : Int} {x y : Vote} (hx : InOf l s x) (hy : InOf l s y) (hf : x.frm = y.frm) : x = y :=
  dbl_one hx.1 hy.1 hf (hx.2.1.trans hy.2.1.symm) (by rw [hx.2.1]; exact hx.2.2)
theorem inLast_uniq {l : List Vote} {u : Int} {x y : Vote} (hx : InLast l u x) (hy : InLast l u y) (hf : x.frm = y.frm) : x = y := by
  have h1 := hx.2.2.1 y hy.1 hf.symm hy.2.1
  have h2 := hy.2.2.1 x hx.1 hf hx.2.1
  exact dbl_one hx.1 hy.1 hf (by omega) (hx.2.2.2 x hx.1 rfl hx.2.1)
theorem ofL_is (l : List Vote) (s : Int) : IsOf l s (ofL l s) := by
  obtain ⟨h1, h2⟩ := setV_is (l.filter fun v => decide (InOf l s v)) (fun x hx y hy hf => inOf_uniq (s := s) (l := l) (by simpa using (List.mem_filter.1 hx).2) (by simpa using (List.mem_filter.1 hy).2) hf)
  refine ⟨h1, fun v => (h2 v).trans ?_⟩
  rw [List.mem_filter, decide_eq_true_iff]
  exact ⟨fun h => h.2, fun h => ⟨h.1, h⟩⟩
theorem lastL_is (l : List Vote) (u : Int) : IsLast l u (lastL l u) := by
  obtain ⟨h1, h2⟩ := setV_is (l.filter fun v => decide (InLast l u v)) (fun x hx y hy hf => inLast_uniq (u := u) (l := l) (by simpa using (List.mem_filter.1 hx).2) (by simpa using (List.mem_filter.1 hy).2) hf)
  refine ⟨h1, fun v => (h2 v).trans ?_⟩
  rw [List.mem_filter, decide_eq_true_iff]
  exact ⟨fun h => h.2, fun h => ⟨h.1, h⟩⟩
theorem dblL_is (l : List Vote) (s : Int) : IsDbl l s (dblL l s) := by
  obtain ⟨h1, h2⟩ := setup_rises ((l.filter fun v => decide (v.slot = s ∧ Dbl l s v.frm)).map (·.frm))
  refine ⟨h1, fun f => (h2 f).trans ?_⟩
  simp only [List.mem_map, List.mem_filter, decide_eq_true_eq]
  constructor
  · rintro ⟨v, ⟨_, _, h⟩, rfl⟩; exact h
  · intro h
    obtain ⟨x, hx, hf, hs⟩ := dbl_mem h
    exact ⟨x, ⟨hx, hs, by rw [hf]; exact h⟩, hf⟩
theorem ofL_eq {l : List Vote} {s : Int} {o : List Vote} (h : IsOf l s o) : o = ofL l s := risesV_uniq h.1 (ofL_is l s).1 (fun v => (h.2 v).trans ((ofL_is l s).2 v).symm)
theorem lastL_eq {l : List Vote} {s : Int} {o : List Vote} (h : IsLast l s o) : o = lastL l s := risesV_uniq h.1 (lastL_is l s).1 (fun v => (h.2 v).trans ((lastL_is l s).2 v).symm)
theorem dblL_eq {l : List Vote} {s : Int} {o : List Int} (h : IsDbl l s o) : o = dblL l s := rises_uniq h.1 (dblL_is l s).1 (fun v => (h.2 v).trans ((dblL_is l s).2 v).symm)
theorem insV_len (v : Vote) : ∀ o : List Vote, (insV v o).length ≤ o.length + 1
  | [] => by simp [insV]
  | x :: xs => by
    unfold insV
    have := insV_len v xs
    split
    · simp
    · split
      · simp
      · simp; omega
theorem setV_len : ∀ l : List Vote, (setV l).length ≤ l.length
  | [] => by simp [setV]
  | v :: l => by
    have h1 := setV_len l
    have h2 := insV_len v (setV l)
    show (insV v (setV l)).length ≤ _
    simp only [List.length_cons]
    omega
theorem ofL_len (l : List Vote) (s : Int) : (ofL l s).length ≤ l.length := Nat.le_trans (setV_len _) (List.length_filter_le _ _)
theorem lastL_len (l : List Vote) (s : Int) : (lastL l s).length ≤ l.length := Nat.le_trans (setV_len _) (List.length_filter_le _ _)
theorem setup_len (l : List Int) : (setup l).length ≤ l.length := by
  have := Lib.compact_length_le (isort l)
  rw [isort_len] at this
  exact this
theorem dblL_len (l : List Vote) (s : Int) : (dblL l s).length ≤ l.length := by
  refine Nat.le_trans (setup_len _) ?_
  rw [List.length_map]
  exact List.length_filter_le _ _
/-- Sorting numbers that differ. -/
theorem isort_rises {l : List Int} (h : l.Nodup) : Rises (isort l) := by
  have hp := isort_le l
  have hn : (isort l).Nodup := (isort_perm l).nodup_iff.2 h
  refine rises_of fun i hi => ?_
  have h1 := List.pairwise_iff_getElem.1 hp i (i + 1) (by omega) hi (by omega)
  have h2 := List.pairwise_iff_getElem.1 hn i (i + 1) (by omega) hi (by omega)
  omega
end Go.Proofs.Ytkccakaaklemdaa
