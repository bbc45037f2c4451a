/- HJ: several texts in one. -/
import Derived.Test.YtdocgemfedohdaaHE
import Derived.Test.YtdocgemfedohdaaHH
import Derived.Test.YtdocgemfedohdaaHG
import Derived.StillTail
import Derived.Test.YtdocgemfedohdaaHA
/-! Votes that count (the plain law). -/
namespace Go.Proofs.Ytdocgemfedohdaa
/-- f has two votes of slot s, of different heads. -/
def Dbl (l : List Vote) (s f : Int) : Prop := ∃ x ∈ l, ∃ y ∈ l, x.frm = f ∧ y.frm = f ∧ x.slot = s ∧ y.slot = s ∧ x.head ≠ y.head
instance instDbl (l : List Vote) (s f : Int) : Decidable (Dbl l s f) := by unfold Dbl; exact inferInstance
theorem dbl_mem {l : List Vote} {s f : Int} (h : Dbl l s f) : ∃ x ∈ l, x.frm = f ∧ x.slot = s := by
  obtain ⟨x, hx, _, _, h1, _, h2, _⟩ := h
  exact ⟨x, hx, h1, h2⟩
theorem dbl_mono {l m : List Vote} (h : ∀ x ∈ l, x ∈ m) {s f : Int} (hd : Dbl l s f) : Dbl m s f := by
  obtain ⟨x, hx, y, hy, r⟩ := hd
  exact ⟨x, h x hx, y, h y hy, r⟩
theorem dbl_congr {l m : List Vote} (h : ∀ x, x ∈ l ↔ x ∈ m) {s f : Int} : Dbl l s f ↔ Dbl m s f := ⟨dbl_mono fun x hx => (h x).1 hx, dbl_mono fun x hx => (h x).2 hx⟩
/-- Who are not double have one head a slot. -/
theorem dbl_one {l : List Vote} {x y : Vote} (hx : x ∈ l) (hy : y ∈ l) (hf : x.frm = y.frm) (hs : x.slot = y.slot) (h : ¬ Dbl l x.slot x.frm) : x = y := by
  have : x.head = y.head := Classical.byContradiction fun hne => h ⟨x, hx, y, hy, rfl, hf.symm, rfl, hs.symm, hne⟩
  obtain ⟨a, b, c⟩ := x
  obtain ⟨a', b', c'⟩ := y
  simp only at hf hs this
  subst hf hs this
  rfl
def RisesV (o : List Vote) : Prop := Rises (o.map (·.frm))
theorem risesV_uniq : ∀ {a b : List Vote}, RisesV a → RisesV b → (∀ v, v ∈ a ↔ v ∈ b) → a = b
  | [], [], _, _, _ => rfl
  | [], y :: ys, _, _, e => by have := (e y).2 (by simp); simp at this
  | x :: xs, [], _, _, e => by have := (e x).1 (by simp); simp at this
  | x :: xs, y :: ys, ha, hb, e => by
    have ha1 : ∀ z ∈ xs, x.frm < z.frm := fun z hz => ha.1 _ (List.mem_map_of_mem hz)
    have hb1 : ∀ z ∈ ys, y.frm < z.frm := fun z hz => hb.1 _ (List.mem_map_of_mem hz)
    have hxy : x = y := by
      have h1 := (e x).1 (by simp)
      have h2 := (e y).2 (by simp)
      simp only [List.mem_cons] at h1 h2
      rcases h1 with h1 | h1
      · exact h1
      · rcases h2 with h2 | h2
        · exact h2.symm
        · have := hb1 x h1; have := ha1 y h2; omega
    subst hxy
    congr 1
    refine risesV_uniq ha.2 hb.2 (fun v => ?_)
    constructor
    · intro hv
      have := (e v).1 (by simp [hv])
      simp only [List.mem_cons] at this
      rcases this with h | h
      · subst h; have := ha1 v hv; omega
      · exact h
    · intro hv
      have := (e v).2 (by simp [hv])
      simp only [List.mem_cons] at this
      rcases this with h | h
      · subst h; have := hb1 v hv; omega
      · exact h
theorem risesV_lt {o : List Vote} (h : RisesV o) (i j : Nat) (hi : i < o.length) (hj : j < o.length) (hij : i < j) : o[i].frm < o[j].frm := by
  have := rises_le h i j (by simpa using hi) (by simpa using hj) hij
  simpa using this
theorem risesV_inj {o : List Vote} (h : RisesV o) {x y : Vote} (hx : x ∈ o) (hy : y ∈ o) (hf : x.frm = y.frm) : x = y := by
  obtain ⟨i, hi, rfl⟩ := List.getElem_of_mem hx
  obtain ⟨j, hj, rfl⟩ := List.getElem_of_mem hy
  rcases Nat.lt_trichotomy i j with h1 | h1 | h1
  · have := risesV_lt h i j hi hj h1; omega
  · subst h1; rfl
  · have := risesV_lt h j i hj hi h1; omega
/-- The votes of slot s that count. -/
def InOf (l : List Vote) (s : Int) (v : Vote) : Prop := v ∈ l ∧ v.slot = s ∧ ¬ Dbl l s v.frm
/-- The last votes up to slot u that count. -/
def InLast (l : List Vote) (u : Int) (v : Vote) : Prop :=
  v ∈ l ∧ v.slot ≤ u ∧ (∀ y ∈ l, y.frm = v.frm → y.slot ≤ u → y.slot ≤ v.slot) ∧ ∀ y ∈ l, y.frm = v.frm → y.slot ≤ u → ¬ Dbl l y.slot v.frm
def IsOf (l : List Vote) (s : Int) (o : List Vote) : Prop := RisesV o ∧ ∀ v, v ∈ o ↔ InOf l s v
def IsLast (l : List Vote) (u : Int) (o : List Vote) : Prop := RisesV o ∧ ∀ v, v ∈ o ↔ InLast l u v
def IsDbl (l : List Vote) (s : Int) (d : List Int) : Prop := Rises d ∧ ∀ f, f ∈ d ↔ Dbl l s f
def insV (v : Vote) : List Vote → List Vote
  | [] => [v]
  | x :: xs => if v.frm < x.frm then v :: x :: xs else if v.frm = x.frm then x :: xs else x :: insV v xs
theorem insV_is (v : Vote) : ∀ o : List Vote, RisesV o → (∀ x ∈ o, x.frm = v.frm → x = v) → RisesV (insV v o) ∧ ∀ z, z ∈ insV v o ↔ z = v ∨ z ∈ o
  | [], _, _ => ⟨⟨by simp, trivial⟩, by simp [insV]⟩
  | x :: xs, h, hu => by
    have hx1 : ∀ z ∈ xs, x.frm < z.frm := fun z hz => h.1 _ (List.mem_map_of_mem hz)
    unfold insV
    by_cases h1 : v.frm < x.frm
    · rw [if_pos h1]
      refine ⟨⟨fun y hy => ?_, h⟩, by simp⟩
      simp only [List.map_cons, List.mem_cons] at hy
      rcases hy with rfl | hy
      · exact h1
      · obtain ⟨z, hz, rfl⟩ := List.mem_map.1 hy
        have := hx1 z hz
        show v.frm < z.frm
        omega
    · rw [if_neg h1]
      by_cases h2 : v.frm = x.frm
      · rw [if_pos h2]
        have := hu x (by simp) h2.symm
        subst this
        exact ⟨h, fun z => by simp⟩
      · rw [if_neg h2]
        obtain ⟨i1, i2⟩ := insV_is v xs h.2 (fun y hy => hu y (by simp [hy]))
        refine ⟨⟨fun y hy => ?_, i1⟩, fun z => ?_⟩
        · obtain ⟨z, hz, rfl⟩ := List.mem_map.1 hy
          show x.frm < z.frm
          rcases (i2 z).1 hz with rfl | hz
          · omega
          · exact hx1 z hz
        · rw [List.mem_cons, i2, List.mem_cons]
          constructor
          · rintro (h | h | h)
            · exact .inr (.inl h)
            · exact .inl h
            · exact .inr (.inr h)
          · rintro (h | h | h)
            · exact .inr (.inl h)
            · exact .inl h
            · exact .inr (.inr h)
def setV (l : List Vote) : List Vote := l.foldr insV []
theorem setV_is : ∀ l : List Vote, (∀ x ∈ l, ∀ y ∈ l, x.frm = y.frm → x = y) → RisesV (setV l) ∧ ∀ z, z ∈ setV l ↔ z ∈ l
  | [], _ => ⟨trivial, by simp [setV]⟩
  | v :: l, h => by
    obtain ⟨i1, i2⟩ := setV_is l (fun x hx y hy => h x (by simp [hx]) y (by simp [hy]))
    obtain ⟨j1, j2⟩ := insV_is v (setV l) i1 (fun x hx he => h x (by simp [(i2 x).1 hx]) v (by simp) he)
    exact ⟨j1, fun z => (j2 z).trans (by rw [i2, List.mem_cons])⟩
instance instInOf (l : List Vote) (s : Int) (v : Vote) : Decidable (InOf l s v) := by unfold InOf; exact inferInstance
instance instInLast (l : List Vote) (u : Int) (v : Vote) : Decidable (InLast l u v) := by unfold InLast; exact inferInstance
def ofL (l : List Vote) (s : Int) : List Vote := setV (l.filter fun v => decide (InOf l s v))
def lastL (l : List Vote) (u : Int) : List Vote := setV (l.filter fun v => decide (InLast l u v))
def dblL (l : List Vote) (s : Int) : List Int := setup ((l.filter fun v => decide (v.slot = s ∧ Dbl l s v.frm)).map (·.frm))
theorem inOf_uniq {l : List Vote} {s : Int} {x y : Vote} (hx : InOf l s x) (hy : InOf l s y) (hf : x.frm = y.frm) : x = y :=
  dbl_one hx.1 hy.1 hf (hx.2.1.trans hy.2.1.symm) (by rw [hx.2.1]; exact hx.2.2)
theorem inLast_uniq {l : List Vote} {u : Int} {x y : Vote} (hx : InLast l u x) (hy : InLast l u y) (hf : x.frm = y.frm) : x = y := by
  have h1 := hx.2.2.1 y hy.1 hf.symm hy.2.1
  have h2 := hy.2.2.1 x hx.1 hf hx.2.1
  exact dbl_one hx.1 hy.1 hf (by omega) (hx.2.2.2 x hx.1 rfl hx.2.1)
theorem ofL_is (l : List Vote) (s : Int) : IsOf l s (ofL l s) := by
  obtain ⟨h1, h2⟩ := setV_is (l.filter fun v => decide (InOf l s v)) (fun x hx y hy hf => inOf_uniq (s := s) (l := l) (by simpa using (List.mem_filter.1 hx).2) (by simpa using (List.mem_filter.1 hy).2) hf)
  refine ⟨h1, fun v => (h2 v).trans ?_⟩
  rw [List.mem_filter, decide_eq_true_iff]
  exact ⟨fun h => h.2, fun h => ⟨h.1, h⟩⟩
theorem lastL_is (l : List Vote) (u : Int) : IsLast l u (lastL l u) := by
  obtain ⟨h1, h2⟩ := setV_is (l.filter fun v => decide (InLast l u v)) (fun x hx y hy hf => inLast_uniq (u := u) (l := l) (by simpa using (List.mem_filter.1 hx).2) (by simpa using (List.mem_filter.1 hy).2) hf)
  refine ⟨h1, fun v => (h2 v).trans ?_⟩
  rw [List.mem_filter, decide_eq_true_iff]
  exact ⟨fun h => h.2, fun h => ⟨h.1, h⟩⟩
theorem dblL_is (l : List Vote) (s : Int) : IsDbl l s (dblL l s) := by
  obtain ⟨h1, h2⟩ := setup_rises ((l.filter fun v => decide (v.slot = s ∧ Dbl l s v.frm)).map (·.frm))
  refine ⟨h1, fun f => (h2 f).trans ?_⟩
  simp only [List.mem_map, List.mem_filter, decide_eq_true_eq]
  constructor
  · rintro ⟨v, ⟨_, _, h⟩, rfl⟩; exact h
  · intro h
    obtain ⟨x, hx, hf, hs⟩ := dbl_mem h
    exact ⟨x, ⟨hx, hs, by rw [hf]; exact h⟩, hf⟩
theorem ofL_eq {l : List Vote} {s : Int} {o : List Vote} (h : IsOf l s o) : o = ofL l s := risesV_uniq h.1 (ofL_is l s).1 (fun v => (h.2 v).trans ((ofL_is l s).2 v).symm)
theorem lastL_eq {l : List Vote} {s : Int} {o : List Vote} (h : IsLast l s o) : o = lastL l s := risesV_uniq h.1 (lastL_is l s).1 (fun v => (h.2 v).trans ((lastL_is l s).2 v).symm)
theorem dblL_eq {l : List Vote} {s : Int} {o : List Int} (h : IsDbl l s o) : o = dblL l s := rises_uniq h.1 (dblL_is l s).1 (fun v => (h.2 v).trans ((dblL_is l s).2 v).symm)
theorem insV_len (v : Vote) : ∀ o : List Vote, (insV v o).length ≤ o.length + 1
  | [] => by simp [insV]
  | x :: xs => by
    unfold insV
    have := insV_len v xs
    split
    · simp
    · split
      · simp
      · simp; omega
theorem setV_len : ∀ l : List Vote, (setV l).length ≤ l.length
  | [] => by simp [setV]
  | v :: l => by
    have h1 := setV_len l
    have h2 := insV_len v (setV l)
    show (insV v (setV l)).length ≤ _
    simp only [List.length_cons]
    omega
theorem ofL_len (l : List Vote) (s : Int) : (ofL l s).length ≤ l.length := Nat.le_trans (setV_len _) (List.length_filter_le _ _)
theorem lastL_len (l : List Vote) (s : Int) : (lastL l s).length ≤ l.length := Nat.le_trans (setV_len _) (List.length_filter_le _ _)
theorem setup_len (l : List Int) : (setup l).length ≤ l.length := by
  have := Lib.compact_length_le (isort l)
  rw [isort_len] at this
  exact this
theorem dblL_len (l : List Vote) (s : Int) : (dblL l s).length ≤ l.length := by
  refine Nat.le_trans (setup_len _) ?_
  rw [List.length_map]
  exact List.length_filter_le _ _
/-- Sorting numbers that differ. -/
theorem isort_rises {l : List Int} (h : l.Nodup) : Rises (isort l) := by
  have hp := isort_le l
  have hn : (isort l).Nodup := (isort_perm l).nodup_iff.2 h
  refine rises_of fun i hi => ?_
  have h1 := List.pairwise_iff_getElem.1 hp i (i + 1) (by omega) hi (by omega)
  have h2 := List.pairwise_iff_getElem.1 hn i (i + 1) (by omega) hi (by omega)
  omega
end Go.Proofs.Ytdocgemfedohdaa
/-! What is on a block parts among what stands on it, and its own votes: the plain law. -/
namespace Go.Proofs.Ytdocgemfedohdaa
theorem chain_len {l : List Blk} (ht : Tree l) {x y : ID} (h : y ∈ chain l x) : (chain l y).length ≤ (chain l x).length := by
  revert h
  refine chain_ind ht (P := fun _ ch => y ∈ ch → (chain l y).length ≤ ch.length) (fun _ h => by simp at h) ?_ ?_ x
  · intro h
    simp only [List.mem_singleton] at h
    subst h
    rw [chain_zid ht]; exact Nat.le_refl _
  · intro n hn ih h
    rcases List.mem_cons.1 h with rfl | h
    · rw [chain_cons ht hn]; exact Nat.le_refl _
    · have := ih h; simp only [List.length_cons]; omega
theorem name_notin {l : List Blk} (ht : Tree l) {n : Nat} (hn : n < l.length) : nameOf l[n] ∉ chain l l[n].par := fun h => by
  have := chain_len ht h
  rw [chain_cons ht hn] at this
  simp only [List.length_cons] at this
  omega
theorem par_chain {l : List Blk} (ht : Tree l) {n : Nat} (hn : n < l.length) : chain l l[n].par ≠ [] := by
  obtain ⟨r, hr⟩ := chain_head ht (par_mem ht hn)
  rw [hr]; simp
def sumL {α : Type} (f : α → Int) : List α → Int
  | [] => 0
  | k :: ks => f k + sumL f ks
theorem sumL_snoc {α : Type} (f : α → Int) (x : α) : ∀ ks : List α, sumL f (ks ++ [x]) = sumL f ks + f x
  | [] => by simp [sumL]
  | k :: ks => by simp only [List.cons_append, sumL]; rw [sumL_snoc f x ks]; omega
theorem sumL_add {α : Type} {f g h : α → Int} : ∀ ks : List α, (∀ k ∈ ks, f k = g k + h k) → sumL f ks = sumL g ks + sumL h ks
  | [], _ => by simp [sumL]
  | k :: ks, e => by
    have := sumL_add ks (fun k hk => e k (by simp [hk]))
    have := e k (by simp)
    simp only [sumL]; omega
theorem sumL_zero {α : Type} {f : α → Int} : ∀ ks : List α, (∀ k ∈ ks, f k = 0) → sumL f ks = 0
  | [], _ => rfl
  | k :: ks, e => by
    have := sumL_zero ks (fun k hk => e k (by simp [hk]))
    have := e k (by simp)
    simp only [sumL]; omega
theorem sumL_bd {α : Type} {f : α → Int} {B : Int} (h : ∀ k, 0 ≤ f k ∧ f k ≤ B) : ∀ ks : List α, 0 ≤ sumL f ks ∧ sumL f ks ≤ ks.length * B
  | [] => by simp [sumL]
  | k :: ks => by
    have := sumL_bd h ks
    have := h k
    simp only [sumL, List.length_cons]
    rw [show ((ks.length + 1 : Nat) : Int) * B = ks.length * B + B by rw [Int.natCast_add, Int.add_mul]; simp]
    omega
def ind (b : Bool) : Int := if b then 1 else 0
theorem sumL_one {b : List Blk} {x : ID} {p : Prop} [Decidable p] : (∀ i j (hi : i < b.length) (hj : j < b.length), nameOf b[i] = nameOf b[j] → i = j) → ∀ (id : ID), (∀ c ∈ b, nameOf c = x → (c.par = id ↔ p)) → sumL (fun k => ind (decide (k = x))) (kidsOf b id) = ind (decide (p ∧ ∃ c ∈ b, nameOf c = x)) := by
  induction b with
  | nil => intro _ _ _; simp [kidsOf, sumL, ind]
  | cons c b ih =>
    intro hu id hp
    have ih' := ih (fun i j hi hj h => by
      have := hu (i + 1) (j + 1) (by simpa using hi) (by simpa using hj) (by simpa using h)
      omega) id (fun d hd => hp d (by simp [hd]))
    have hno : ∀ d ∈ b, nameOf d ≠ nameOf c := fun d hd e => by
      obtain ⟨i, hi, rfl⟩ := List.getElem_of_mem hd
      have := hu (i + 1) 0 (by simpa using hi) (by simp) (by simpa using e)
      omega
    unfold kidsOf at *
    by_cases hc : c.par = id
    · simp only [List.filter_cons, hc, decide_true, if_true, List.map_cons, sumL]
      rw [ih']
      by_cases hx : nameOf c = x
      · have hp1 := (hp c (by simp) hx).1 hc
        have h1 : ¬ ∃ c ∈ b, nameOf c = x := fun ⟨d, hd, e⟩ => hno d hd (e.trans hx.symm)
        simp [hx, hp1, h1, ind]
      · simp [hx, ind]
    · have : decide (c.par = id) = false := by simpa using hc
      simp only [List.filter_cons, this, Bool.false_eq_true, if_false]
      rw [ih']
      by_cases hx : nameOf c = x
      · have hp1 : ¬ p := fun h => hc ((hp c (by simp) hx).2 h)
        simp [hp1]
      · simp [hx]
theorem kids_zid {l : List Blk} (ht : Tree l) {k id : ID} (h : k ∈ kidsOf l id) : k ≠ zid := by
  unfold kidsOf at h
  obtain ⟨b, hb, rfl⟩ := List.mem_map.1 h
  obtain ⟨n, hn, rfl⟩ := List.getElem_of_mem (List.mem_filter.1 hb).1
  exact (ht n hn).1
/-- Whether a block stands on another one: it is the block, or stands on just one of its children. -/
theorem on_parts {l : List Blk} (ht : Tree l) (id x : ID) : ind (decide (id ∈ chain l x)) = ind (decide (x = id ∧ chain l x ≠ [])) + sumL (fun k => ind (decide (k ∈ chain l x))) (kidsOf l id) := by
  refine chain_ind ht (P := fun x ch => ind (decide (id ∈ ch)) = ind (decide (x = id ∧ ch ≠ [])) + sumL (fun k => ind (decide (k ∈ ch))) (kidsOf l id)) ?_ ?_ ?_ x
  · intro x
    rw [sumL_zero _ (fun k _ => by simp [ind])]
    simp [ind]
  · rw [sumL_zero _ (fun k hk => by simp [ind, kids_zid ht hk])]
    by_cases h : id = zid
    · subst h; simp [ind]
    · have h' : ¬ zid = id := fun e => h e.symm
      simp [ind, h, h']
  · intro n hn ih
    have hne := name_notin ht hn
    have hpc := par_chain ht hn
    have hsum : sumL (fun k => ind (decide (k ∈ nameOf l[n] :: chain l l[n].par))) (kidsOf l id) = sumL (fun k => ind (decide (k = nameOf l[n]))) (kidsOf l id) + sumL (fun k => ind (decide (k ∈ chain l l[n].par))) (kidsOf l id) := by
      refine sumL_add _ fun k _ => ?_
      by_cases hk : k = nameOf l[n]
      · subst hk; simp [ind, hne]
      · simp [ind, hk]
    have hone := sumL_one (p := l[n].par = id) (x := nameOf l[n]) (b := l) (fun i j hi hj h => tree_inj ht hi hj h) id (fun c hc e => by
      obtain ⟨m, hm, rfl⟩ := List.getElem_of_mem hc
      have := tree_inj ht hm hn e
      subst this
      exact Iff.rfl)
    rw [hsum, hone]
    have hex : ∃ c ∈ l, nameOf c = nameOf l[n] := ⟨_, List.getElem_mem hn, rfl⟩
    by_cases h1 : id = nameOf l[n]
    · have h2 : id ∉ chain l l[n].par := by rw [h1]; exact hne
      have h3 : ¬ l[n].par = id := fun e => by
        apply h2
        rw [e]; rw [e] at hpc
        exact chain_self hpc
      have hz : ind (decide (l[n].par = id ∧ chain l l[n].par ≠ [])) = 0 := by simp [ind, h3]
      have hy : ind (decide (id ∈ chain l l[n].par)) = 0 := by simp [ind, h2]
      have hw : ind (decide (l[n].par = id ∧ ∃ c ∈ l, nameOf c = nameOf l[n])) = 0 := by simp [ind, h3]
      have hv : ind (decide (id ∈ nameOf l[n] :: chain l l[n].par)) = 1 := by simp [ind, h1]
      have hu : ind (decide (nameOf l[n] = id ∧ nameOf l[n] :: chain l l[n].par ≠ [])) = 1 := by simp [ind, h1]
      omega
    · have hv : ind (decide (id ∈ nameOf l[n] :: chain l l[n].par)) = ind (decide (id ∈ chain l l[n].par)) := by simp [h1]
      have hu : ind (decide (nameOf l[n] = id ∧ nameOf l[n] :: chain l l[n].par ≠ [])) = 0 := by
        have : ¬ nameOf l[n] = id := fun e => h1 e.symm
        simp [ind, this]
      have hw : ind (decide (l[n].par = id ∧ ∃ c ∈ l, nameOf c = nameOf l[n])) = ind (decide (l[n].par = id ∧ chain l l[n].par ≠ [])) := by
        congr 1
        apply decide_eq_decide.2
        exact ⟨fun h => ⟨h.1, hpc⟩, fun h => ⟨h.1, hex⟩⟩
      omega
/-- Whose votes are for a block itself. -/
def ownOf (m : List Vote) (id : ID) : List Int := (m.filter fun v => decide (v.head = id)).map Vote.frm
theorem ownOf_snoc {vs : List Vote} {id : ID} {k : Nat} (hlt : k < vs.length) : ownOf (vs.take (k + 1)) id = ownOf (vs.take k) id ++ (if vs[k].head = id then [vs[k].frm] else []) := by
  unfold ownOf
  rw [← List.take_append_getElem hlt, List.filter_append, List.map_append]
  by_cases h : vs[k].head = id <;> simp [h]
theorem ownOf_len (vs : List Vote) (id : ID) : (ownOf vs id).length ≤ vs.length := by
  unfold ownOf
  rw [List.length_map]
  exact List.length_filter_le _ _
theorem mem_whoOn {l : List Blk} {m : List Vote} {id : ID} {i : Int} : i ∈ whoOn l m id ↔ ∃ v ∈ m, id ∈ chain l v.head ∧ v.frm = i := by
  unfold whoOn
  simp only [List.mem_map, List.mem_filter, decide_eq_true_eq]
  exact ⟨fun ⟨v, ⟨h1, h2⟩, h3⟩ => ⟨v, h1, h2, h3⟩, fun ⟨v, h1, h2, h3⟩ => ⟨v, ⟨h1, h2⟩, h3⟩⟩
theorem mem_ownOf {m : List Vote} {id : ID} {i : Int} : i ∈ ownOf m id ↔ ∃ v ∈ m, v.head = id ∧ v.frm = i := by
  unfold ownOf
  simp only [List.mem_map, List.mem_filter, decide_eq_true_eq]
  exact ⟨fun ⟨v, ⟨h1, h2⟩, h3⟩ => ⟨v, h1, h2, h3⟩, fun ⟨v, h1, h2, h3⟩ => ⟨v, ⟨h1, h2⟩, h3⟩⟩
theorem who_parts {l : List Blk} (ht : Tree l) {m : List Vote} (hm : RisesV m) {id : ID} (hid : chain l id ≠ []) (i : Int) :
    ind (decide (i ∈ whoOn l m id)) = ind (decide (i ∈ ownOf m id)) + sumL (fun k => ind (decide (i ∈ whoOn l m k))) (kidsOf l id) := by
  by_cases hex : ∃ v ∈ m, v.frm = i
  · obtain ⟨v, hv, rfl⟩ := hex
    have hw : ∀ y, v.frm ∈ whoOn l m y ↔ y ∈ chain l v.head := fun y => by
      rw [mem_whoOn]
      exact ⟨fun ⟨u, hu, h1, h2⟩ => by rw [← risesV_inj hm hu hv h2]; exact h1, fun h => ⟨v, hv, h, rfl⟩⟩
    have ho : v.frm ∈ ownOf m id ↔ v.head = id := by
      rw [mem_ownOf]
      exact ⟨fun ⟨u, hu, h1, h2⟩ => by rw [← risesV_inj hm hu hv h2]; exact h1, fun h => ⟨v, hv, h, rfl⟩⟩
    have := on_parts ht id v.head
    simp only [hw, ho]
    rw [this]
    congr 1
    congr 1
    apply decide_eq_decide.2
    exact ⟨fun h => h.1, fun h => ⟨h, by rw [h]; exact hid⟩⟩
  · have hw : ∀ y, i ∉ whoOn l m y := fun y h => by
      obtain ⟨v, hv, _, e⟩ := mem_whoOn.1 h
      exact hex ⟨v, hv, e⟩
    have ho : i ∉ ownOf m id := fun h => by
      obtain ⟨v, hv, _, e⟩ := mem_ownOf.1 h
      exact hex ⟨v, hv, e⟩
    rw [sumL_zero _ (fun k _ => by simp [ind, hw])]
    simp [ind, hw, ho]
theorem sumL_mul {α : Type} (f : α → Int) (x : Int) : ∀ ks : List α, sumL (fun k => f k * x) ks = sumL f ks * x
  | [] => by simp [sumL]
  | k :: ks => by simp only [sumL]; rw [sumL_mul f x ks, Int.add_mul]
theorem ind_mul (b : Bool) (x : Int) : (if b = true then x else 0) = ind b * x := by cases b <;> simp [ind]
theorem wsum_parts (W : List Int) {p q : Nat → Bool} {α : Type} {r : α → Nat → Bool} {ks : List α} (h : ∀ i, ind (p i) = ind (q i) + sumL (fun y => ind (r y i)) ks) (k : Nat) :
    wsumTo W p k = wsumTo W q k + sumL (fun y => wsumTo W (r y) k) ks := by
  induction k with
  | zero => simp only [wsumTo]; rw [sumL_zero _ (fun _ _ => rfl)]; rfl
  | succ k ih =>
    have e := sumL_add (f := fun y => wsumTo W (r y) (k + 1)) (g := fun y => wsumTo W (r y) k) (h := fun y => ind (r y k) * W[k]?.getD 0) ks (fun y _ => by simp only [wsumTo]; rw [ind_mul])
    rw [e, sumL_mul]
    simp only [wsumTo]
    rw [ih, ind_mul, ind_mul, h k, Int.add_mul]
    omega
theorem on_splits (c : Cfg) {l : List Blk} (ht : Tree l) {m : List Vote} (hm : RisesV m) {id : ID} (hid : chain l id ≠ []) :
    onC c l m id = sumL (onC c l m) (kidsOf l id) + weightC c (ownOf m id) := by
  unfold onC weightC
  by_cases hc : MayC c
  · simp only [if_pos hc]
    rw [wsum_parts c.W (q := fun i => decide ((i : Int) ∈ ownOf m id)) (r := fun y i => decide ((i : Int) ∈ whoOn l m y)) (ks := kidsOf l id) (fun i => who_parts ht hm hid i)]
    omega
  · simp only [if_neg hc]
    rw [sumL_zero _ (fun _ _ => rfl)]
    rfl
theorem on_unknown (c : Cfg) {l : List Blk} (m : List Vote) {id : ID} (hid : chain l id = []) : onC c l m id = 0 := by
  have : whoOn l m id = [] := by
    unfold whoOn
    rw [List.map_eq_nil_iff, List.filter_eq_nil_iff]
    intro v _
    simp only [decide_eq_true_eq]
    intro h
    exact chain_mem h hid
  unfold onC
  rw [this, weightC_nil]
end Go.Proofs.Ytdocgemfedohdaa
/-! How much a boost is: the plain law. -/
namespace Go.Proofs.Ytdocgemfedohdaa
def boostC (c : Cfg) (pct : Int) : Int := if MayC c ∧ 0 ≤ pct ∧ pct ≤ 100 then (totalC c / c.epoch) * pct / 100 else 0
theorem totalC_bd (c : Cfg) : 0 ≤ totalC c ∧ totalC c ≤ 13194139533312 := by
  unfold totalC
  by_cases hm : MayC c
  · rw [if_pos hm]
    have h1 := wsumTo_bd hm.W (fun _ => true) c.W.length
    have h2 := hm.len
    omega
  · rw [if_neg hm]; omega
theorem boost_lemma {t e p : Int} (ht : 0 ≤ t) (he : 1 ≤ e) (hp : 0 ≤ p) (hp2 : p ≤ 100) : 0 ≤ t / e ∧ t / e ≤ t ∧ 0 ≤ t / e * p ∧ t / e * p ≤ t * 100 ∧ 0 ≤ t / e * p / 100 ∧ t / e * p / 100 ≤ t := by
  have h1 : 0 ≤ t / e := Int.ediv_nonneg ht (by omega)
  have h2 : t / e ≤ t := Int.ediv_le_self _ ht
  have h3 : 0 ≤ t / e * p := Int.mul_nonneg h1 hp
  have h4 : t / e * p ≤ t / e * 100 := Int.mul_le_mul_of_nonneg_left hp2 h1
  have h5 : t / e * 100 ≤ t * 100 := Int.mul_le_mul_of_nonneg_right h2 (by omega)
  refine ⟨h1, h2, h3, by omega, by omega, by omega⟩
theorem boostC_bd (c : Cfg) (pct : Int) : 0 ≤ boostC c pct ∧ boostC c pct ≤ totalC c ∧ boostC c pct ≤ 13194139533312 := by
  have ht := totalC_bd c
  unfold boostC
  split
  · rename_i h
    have := boost_lemma ht.1 h.1.2.1 h.2.1 h.2.2
    omega
  · omega
theorem boostC_mono (c : Cfg) {p q : Int} (hp : 0 ≤ p) (h : p ≤ q) (hq : q ≤ 100) : boostC c p ≤ boostC c q := by
  unfold boostC
  by_cases hm : MayC c
  · rw [if_pos ⟨hm, hp, by omega⟩, if_pos ⟨hm, by omega, hq⟩]
    have h1 := (boost_lemma (totalC_bd c).1 hm.2.1 hp (by omega)).1
    have h2 : totalC c / c.epoch * p ≤ totalC c / c.epoch * q := Int.mul_le_mul_of_nonneg_left h h1
    omega
  · rw [if_neg (fun h => hm h.1), if_neg (fun h => hm h.1)]
    exact Int.le_refl _
theorem boostC_zero (c : Cfg) : boostC c 0 = 0 := by
  unfold boostC
  split <;> simp
end Go.Proofs.Ytdocgemfedohdaa
/-! The head that is come to by any weights of blocks: the plain law. -/
namespace Go.Proofs.Ytdocgemfedohdaa
/-- k is better than b. -/
def beats (wt : ID → Int) (b k : ID) : Bool := decide (wt b < wt k) || decide (wt k = wt b) && idLess b k
def pick (wt : ID → Int) (b k : ID) : ID := if beats wt b k then k else b
noncomputable def headGo (l : List Blk) (wt : ID → Int) : Nat → ID → ID
  | 0, id => id
  | f + 1, id => match kids l id with
    | [] => id
    | k :: ks => headGo l wt f (ks.foldl (pick wt) k)
noncomputable def headBy (l : List Blk) (wt : ID → Int) : ID := headGo l wt l.length zid
theorem headGo_nil {l : List Blk} {wt : ID → Int} {id : ID} (h : kids l id = []) (n : Nat) : headGo l wt n id = id := by
  cases n with
  | zero => rfl
  | succ n => simp [headGo, h]
theorem headGo_cons {l : List Blk} {wt : ID → Int} {id k : ID} {ks : List ID} (h : kids l id = k :: ks) (n : Nat) : headGo l wt (n + 1) id = headGo l wt n (ks.foldl (pick wt) k) := by
  simp [headGo, h]
theorem kids_mem {l : List Blk} {id k : ID} (h : k ∈ kids l id) : Tree l ∧ ∃ (n : Nat) (hn : n < l.length), nameOf l[n] = k ∧ l[n].par = id := by
  unfold kids at h
  split at h
  · rename_i ht
    unfold kidsOf at h
    obtain ⟨b, hb, rfl⟩ := List.mem_map.1 h
    obtain ⟨hb1, hb2⟩ := List.mem_filter.1 hb
    obtain ⟨n, hn, rfl⟩ := List.getElem_of_mem hb1
    exact ⟨ht, n, hn, rfl, by simpa using hb2⟩
  · simp at h
theorem kids_of {l : List Blk} (ht : Tree l) {n : Nat} (hn : n < l.length) : nameOf l[n] ∈ kids l l[n].par := by
  unfold kids
  rw [if_pos ht]
  unfold kidsOf
  exact List.mem_map.2 ⟨l[n], List.mem_filter.2 ⟨List.getElem_mem hn, by simp⟩, rfl⟩
theorem kids_chain {l : List Blk} {id k : ID} (h : k ∈ kids l id) : chain l k = k :: chain l id ∧ k ∉ chain l id ∧ chain l id ≠ [] := by
  obtain ⟨ht, n, hn, rfl, rfl⟩ := kids_mem h
  exact ⟨chain_cons ht hn, name_notin ht hn, par_chain ht hn⟩
theorem chain_bound {l : List Blk} (x : ID) : (chain l x).length ≤ l.length + 1 := by
  by_cases ht : Tree l
  · have hk : ∀ n (hn : n < l.length), (chain l (nameOf l[n])).length ≤ n + 2 := by
      intro n
      induction n using Nat.strongRecOn with
      | ind n ih =>
        intro hn
        rw [chain_cons ht hn, List.length_cons]
        rcases (ht n hn).2.2 with h | ⟨_, c, hc, h, _⟩
        · rw [h.1, chain_zid ht]; simp
        · obtain ⟨j, hj, rfl⟩ := List.getElem_of_mem hc
          simp only [List.length_take] at hj
          rw [← h]
          simp only [List.getElem_take]
          have := ih j (by omega) (by omega)
          omega
    rcases known_or (l := l) x with rfl | ⟨n, hn, rfl⟩ | ⟨h, _⟩
    · rw [chain_zid ht]; simp
    · have := hk n hn; omega
    · rw [h]; simp
  · rw [chain_notree ht]; simp
theorem kids_room {l : List Blk} {id k : ID} (h : k ∈ kids l id) : (chain l id).length ≤ l.length := by
  have h1 := chain_bound (l := l) k
  rw [(kids_chain h).1] at h1
  simp only [List.length_cons] at h1
  omega
theorem pick_mem (wt : ID → Int) : ∀ (ks : List ID) (k : ID), ks.foldl (pick wt) k ∈ k :: ks
  | [], k => by simp
  | x :: ks, k => by
    have h := pick_mem wt ks (pick wt k x)
    simp only [List.foldl_cons]
    rcases List.mem_cons.1 h with h | h
    · rw [h]
      unfold pick
      split <;> simp
    · simp [h]
theorem pick_kids {l : List Blk} {wt : ID → Int} {id k : ID} {ks : List ID} (h : kids l id = k :: ks) : ks.foldl (pick wt) k ∈ kids l id := by
  rw [h]; exact pick_mem wt ks k
theorem headGo_fuel {l : List Blk} {wt : ID → Int} : ∀ (n : Nat) (id : ID), l.length + 1 ≤ n + (chain l id).length → headGo l wt (n + 1) id = headGo l wt n id
  | 0, id, h => by
    cases hk : kids l id with
    | nil => rw [headGo_nil hk, headGo_nil hk]
    | cons k ks =>
      have := kids_room (l := l) (id := id) (k := k) (by rw [hk]; simp)
      omega
  | n + 1, id, h => by
    cases hk : kids l id with
    | nil => rw [headGo_nil hk, headGo_nil hk]
    | cons k ks =>
      rw [headGo_cons hk, headGo_cons hk]
      apply headGo_fuel
      rw [(kids_chain (pick_kids hk)).1, List.length_cons]
      omega
theorem headGo_notree {l : List Blk} (ht : ¬ Tree l) (wt : ID → Int) (n : Nat) (id : ID) : headGo l wt n id = id := headGo_nil (by simp [kids, ht]) n
theorem headGo_more {l : List Blk} {wt : ID → Int} : headGo l wt (l.length + 1) zid = headBy l wt := by
  by_cases ht : Tree l
  · exact headGo_fuel _ _ (by rw [chain_zid ht]; simp)
  · unfold headBy
    rw [headGo_notree ht, headGo_notree ht]
/-- Where one is when there is nothing above. -/
theorem headGo_end {l : List Blk} {wt : ID → Int} {n : Nat} {id : ID} (h : kids l id = []) (hh : headGo l wt n id = headBy l wt) : headBy l wt = id := by
  rw [← hh, headGo_nil h]
theorem headGo_desc {l : List Blk} {wt : ID → Int} : ∀ (n : Nat) (id : ID), chain l id ≠ [] → id ∈ chain l (headGo l wt n id)
  | 0, id, h => chain_self h
  | n + 1, id, h => by
    cases hk : kids l id with
    | nil => rw [headGo_nil hk]; exact chain_self h
    | cons k ks =>
      rw [headGo_cons hk]
      have hp := kids_chain (pick_kids (wt := wt) hk)
      have h1 : ks.foldl (pick wt) k ∈ chain l (headGo l wt n (ks.foldl (pick wt) k)) := headGo_desc n _ (by rw [hp.1]; simp)
      refine chain_trans h1 ?_
      rw [hp.1]
      exact List.mem_cons_of_mem _ (chain_self h)
theorem chain_lin {l : List Blk} {x a b : ID} (ha : a ∈ chain l x) (hb : b ∈ chain l x) : a ∈ chain l b ∨ b ∈ chain l a := by
  by_cases ht : Tree l
  · revert ha hb
    refine chain_ind ht (P := fun _ ch => a ∈ ch → b ∈ ch → a ∈ chain l b ∨ b ∈ chain l a) (fun _ h => by simp at h) ?_ ?_ x
    · intro h1 h2
      simp only [List.mem_singleton] at h1 h2
      subst h1; subst h2
      rw [chain_zid ht]; simp
    · intro n hn ih h1 h2
      rcases List.mem_cons.1 h1 with e1 | h1' <;> rcases List.mem_cons.1 h2 with e2 | h2'
      · left; rw [e1, e2, chain_cons ht hn]; simp
      · right; rw [e1, chain_cons ht hn]; exact List.mem_cons_of_mem _ h2'
      · left; rw [e2, chain_cons ht hn]; exact List.mem_cons_of_mem _ h1'
      · exact ih h1' h2'
  · rw [chain_notree ht] at ha; simp at ha
/-- Two that each are on the other one's chain are one. -/
theorem chain_anti {l : List Blk} {a b : ID} (h1 : a ∈ chain l b) (h2 : b ∈ chain l a) : a = b := by
  by_cases ht : Tree l
  · rcases known_or (l := l) b with rfl | ⟨n, hn, rfl⟩ | ⟨h, _⟩
    · rw [chain_zid ht] at h1; simpa using h1
    · have h3 := h1
      rw [chain_cons ht hn] at h1
      rcases List.mem_cons.1 h1 with e | h1
      · exact e
      · exact absurd (chain_trans h1 h2) (name_notin ht hn)
    · rw [h] at h1; simp at h1
  · rw [chain_notree ht] at h1; simp at h1
/-- Of the children of one just one is on a chain. -/
theorem kids_one {l : List Blk} {p k k' y : ID} (hk : k ∈ kids l p) (hk' : k' ∈ kids l p) (h : k ∈ chain l y) (h' : k' ∈ chain l y) : k = k' := by
  have c1 := kids_chain hk
  have c2 := kids_chain hk'
  rcases chain_lin h h' with e | e
  · rw [c2.1] at e
    rcases List.mem_cons.1 e with e | e
    · exact e
    · exact absurd e c1.2.1
  · rw [c1.1] at e
    rcases List.mem_cons.1 e with e | e
    · exact e.symm
    · exact absurd e c2.2.1
/-- The child of one on the way to what is above it. -/
theorem kid_toward {l : List Blk} {x y : ID} (h : x ∈ chain l y) (hne : x ≠ y) : ∃ k ∈ kids l x, k ∈ chain l y := by
  by_cases ht : Tree l
  · revert h hne
    refine chain_ind ht (P := fun y ch => x ∈ ch → x ≠ y → ∃ k ∈ kids l x, k ∈ ch) (fun _ h => by simp at h) ?_ ?_ y
    · intro h hne
      simp only [List.mem_singleton] at h
      exact absurd h hne
    · intro n hn ih h hne
      rcases List.mem_cons.1 h with e | h
      · exact absurd e hne
      · by_cases e : x = l[n].par
        · exact ⟨nameOf l[n], by rw [e]; exact kids_of ht hn, by simp⟩
        · obtain ⟨k, hk, hm⟩ := ih h e
          exact ⟨k, hk, List.mem_cons_of_mem _ hm⟩
  · rw [chain_notree ht] at h; simp at h
/-! Which child is the best one. -/
def over (wt : ID → Int) (x b : ID) : Prop := wt x < wt b ∨ (wt x = wt b ∧ idLess x b = true)
theorem idl_asymm {x y : ID} (h : idLess x y = true) : idLess y x = false := by
  unfold idLess at *
  simp only [Bool.or_eq_true, Bool.and_eq_true, decide_eq_true_eq, Bool.or_eq_false_iff, Bool.and_eq_false_iff, decide_eq_false_iff_not] at *
  omega
theorem idl_trans {x y z : ID} (h1 : idLess x y = true) (h2 : idLess y z = true) : idLess x z = true := by
  unfold idLess at *
  simp only [Bool.or_eq_true, Bool.and_eq_true, decide_eq_true_eq] at *
  omega
theorem idl_total {x y : ID} (h : x ≠ y) : idLess x y = true ∨ idLess y x = true := by
  unfold idLess
  simp only [Bool.or_eq_true, Bool.and_eq_true, decide_eq_true_eq]
  obtain ⟨a, b⟩ := x
  obtain ⟨c, d⟩ := y
  simp only [ne_eq, ID.mk.injEq, not_and] at h
  simp only
  by_cases e : a = c
  · have := h e; omega
  · omega
theorem beats_iff {wt : ID → Int} {b k : ID} : beats wt b k = true ↔ over wt b k := by
  unfold beats over
  simp only [Bool.or_eq_true, Bool.and_eq_true, decide_eq_true_eq]
  constructor
  · rintro (h | ⟨h, h'⟩)
    · exact .inl h
    · exact .inr ⟨h.symm, h'⟩
  · rintro (h | ⟨h, h'⟩)
    · exact .inl h
    · exact .inr ⟨h.symm, h'⟩
theorem over_trans {wt : ID → Int} {x y z : ID} (h1 : over wt x y) (h2 : over wt y z) : over wt x z := by
  rcases h1 with h1 | ⟨h1, e1⟩ <;> rcases h2 with h2 | ⟨h2, e2⟩
  · exact .inl (by omega)
  · exact .inl (by omega)
  · exact .inl (by omega)
  · exact .inr ⟨by omega, idl_trans e1 e2⟩
theorem over_asymm {wt : ID → Int} {x y : ID} (h1 : over wt x y) (h2 : over wt y x) : False := by
  rcases h1 with h1 | ⟨h1, e1⟩ <;> rcases h2 with h2 | ⟨h2, e2⟩
  · omega
  · omega
  · omega
  · rw [idl_asymm e1] at e2; cases e2
theorem over_total {wt : ID → Int} {x y : ID} (h : x ≠ y) : over wt x y ∨ over wt y x := by
  unfold over
  rcases Int.lt_trichotomy (wt x) (wt y) with h1 | h1 | h1
  · exact .inl (.inl h1)
  · rcases idl_total h with e | e
    · exact .inl (.inr ⟨h1, e⟩)
    · exact .inr (.inr ⟨h1.symm, e⟩)
  · exact .inr (.inl h1)
theorem pick_over (wt : ID → Int) (b k : ID) : (b = pick wt b k ∨ over wt b (pick wt b k)) ∧ (k = pick wt b k ∨ over wt k (pick wt b k)) := by
  unfold pick
  by_cases h : beats wt b k = true
  · rw [if_pos h]; exact ⟨.inr (beats_iff.1 h), .inl rfl⟩
  · rw [if_neg h]
    refine ⟨.inl rfl, ?_⟩
    by_cases e : k = b
    · exact .inl e
    · rcases over_total (wt := wt) e with h' | h'
      · exact .inr h'
      · exact absurd (beats_iff.2 h') h
theorem best_over (wt : ID → Int) : ∀ (ks : List ID) (k : ID), ∀ x ∈ k :: ks, x = ks.foldl (pick wt) k ∨ over wt x (ks.foldl (pick wt) k)
  | [], k, x, hx => by left; simpa using hx
  | y :: ks, k, x, hx => by
    simp only [List.foldl_cons]
    have ih := best_over wt ks (pick wt k y)
    have h0 := ih (pick wt k y) (by simp)
    have hp := pick_over wt k y
    have go : ∀ z, (z = pick wt k y ∨ over wt z (pick wt k y)) → z = ks.foldl (pick wt) (pick wt k y) ∨ over wt z (ks.foldl (pick wt) (pick wt k y)) := by
      intro z hz
      rcases hz with e | h
      · rw [e]; exact h0
      · rcases h0 with e | h'
        · rw [← e]; exact .inr h
        · exact .inr (over_trans h h')
    rcases List.mem_cons.1 hx with rfl | hx
    · exact go _ hp.1
    · rcases List.mem_cons.1 hx with rfl | hx
      · exact go _ hp.2
      · exact ih x (List.mem_cons_of_mem _ hx)
theorem best_uniq {wt : ID → Int} {ks : List ID} {k b : ID} (hb : b ∈ k :: ks) (h : ∀ x ∈ k :: ks, x = b ∨ over wt x b) : ks.foldl (pick wt) k = b := by
  have h1 := h _ (pick_mem wt ks k)
  rcases h1 with e | h1
  · exact e
  · rcases best_over wt ks k b hb with e | h2
    · exact e.symm
    · exact (over_asymm h1 h2).elim
/-- Where the children on the way to y weigh more than all others, y is under the head. -/
theorem head_under {l : List Blk} {wt : ID → Int} {y : ID} (hy : chain l y ≠ []) (hdom : ∀ p k k', k ∈ kids l p → k' ∈ kids l p → k ≠ k' → k ∈ chain l y → wt k' < wt k) : y ∈ chain l (headBy l wt) := by
  have ht : Tree l := Classical.byContradiction fun h => hy (chain_notree h y)
  have go : ∀ (n : Nat) (x : ID), x ∈ chain l y → l.length + 1 ≤ n + (chain l x).length → y ∈ chain l (headGo l wt n x) := by
    intro n
    induction n with
    | zero =>
      intro x hx hl
      by_cases e : x = y
      · subst e; exact headGo_desc _ _ hy
      · obtain ⟨k, hk, _⟩ := kid_toward hx e
        have := kids_room hk
        omega
    | succ n ih =>
      intro x hx hl
      by_cases e : x = y
      · subst e; exact headGo_desc _ _ hy
      · obtain ⟨k, hk, hky⟩ := kid_toward hx e
        cases hks : kids l x with
        | nil => rw [hks] at hk; simp at hk
        | cons k0 ks =>
          rw [headGo_cons hks]
          have hb : ks.foldl (pick wt) k0 = k := by
            refine best_uniq (by rw [← hks]; exact hk) (fun z hz => ?_)
            by_cases e : z = k
            · exact .inl e
            · exact .inr (.inl (hdom x k z hk (by rw [hks]; exact hz) (fun h => e h.symm) hky))
          rw [hb]
          refine ih k hky ?_
          rw [(kids_chain hk).1, List.length_cons]
          omega
  exact go l.length zid (chain_zmem hy) (by rw [chain_zid ht]; simp)
theorem head_known {l : List Blk} (ht : Tree l) (wt : ID → Int) : chain l (headBy l wt) ≠ [] := by
  have := headGo_desc (wt := wt) l.length zid (by rw [chain_zid ht]; simp)
  intro e
  unfold headBy at e
  rw [e] at this
  simp at this
/-- More weight on one, and all that it stands on, leaves it under the head. -/
theorem head_raise {l : List Blk} {wt wt' : ID → Int} {y : ID} {d : Int} (hd : 0 ≤ d) (hw : ∀ x, wt' x = wt x + (if x ∈ chain l y then d else 0)) (h : y ∈ chain l (headBy l wt)) : y ∈ chain l (headBy l wt') := by
  have hy : chain l y ≠ [] := chain_mem h
  have go : ∀ (n : Nat) (x : ID), x ∈ chain l y → y ∈ chain l (headGo l wt n x) → y ∈ chain l (headGo l wt' n x) := by
    intro n
    induction n with
    | zero => intro x _ h; exact h
    | succ n ih =>
      intro x hx h
      by_cases e : x = y
      · subst e; exact headGo_desc _ _ hy
      · cases hks : kids l x with
        | nil => rw [headGo_nil hks] at h ⊢; exact h
        | cons k0 ks =>
          rw [headGo_cons hks] at h ⊢
          have hbk := pick_kids (wt := wt) hks
          have hbc := kids_chain hbk
          have hbh : ks.foldl (pick wt) k0 ∈ chain l (headGo l wt n (ks.foldl (pick wt) k0)) := headGo_desc n _ (by rw [hbc.1]; simp)
          have hby : ks.foldl (pick wt) k0 ∈ chain l y := by
            rcases chain_lin hbh h with e' | e'
            · exact e'
            · rw [hbc.1] at e'
              rcases List.mem_cons.1 e' with e' | e'
              · rw [← e']; exact chain_self hy
              · exact absurd (chain_anti hx e') e
          have hb : ks.foldl (pick wt') k0 = ks.foldl (pick wt) k0 := by
            refine best_uniq (pick_mem wt ks k0) (fun z hz => ?_)
            by_cases e1 : z = ks.foldl (pick wt) k0
            · exact .inl e1
            · right
              have hz' : z ∉ chain l y := fun hzy => e1 (kids_one (by rw [hks]; exact hz) hbk hzy hby)
              have hzw : wt' z = wt z := by rw [hw, if_neg hz']; omega
              have hbw : wt' (ks.foldl (pick wt) k0) = wt (ks.foldl (pick wt) k0) + d := by rw [hw, if_pos hby]
              rcases best_over wt ks k0 z hz with e2 | e2 | ⟨e2, e3⟩
              · exact absurd e2 e1
              · left; omega
              · unfold over
                rw [hzw, hbw]
                by_cases d0 : d = 0
                · right; exact ⟨by omega, e3⟩
                · left; omega
          rw [hb]
          exact ih _ hby h
  exact go l.length zid (chain_zmem hy) h
/-! How much is on two children of one. -/
theorem sumL_two {α : Type} {f : α → Int} (h : ∀ k, 0 ≤ f k) : ∀ (ks : List α) {a b : α}, a ∈ ks → b ∈ ks → a ≠ b → f a + f b ≤ sumL f ks
  | [], a, b, ha, _, _ => by simp at ha
  | k :: ks, a, b, ha, hb, hne => by
    have one : ∀ (ks : List α) {a : α}, a ∈ ks → f a ≤ sumL f ks := by
      intro ks
      induction ks with
      | nil => intro a h; simp at h
      | cons k ks ih =>
        intro a h'
        have hs : 0 ≤ sumL f ks := by
          clear ih h'
          induction ks with
          | nil => simp [sumL]
          | cons k ks ih => have := h k; simp only [sumL]; omega
        simp only [sumL]
        rcases List.mem_cons.1 h' with rfl | h'
        · omega
        · have := ih h'; have := h k; omega
    simp only [sumL]
    rcases List.mem_cons.1 ha with e1 | ha <;> rcases List.mem_cons.1 hb with e2 | hb
    · exact absurd (e1.trans e2.symm) hne
    · have := one ks hb; rw [e1]; omega
    · have := one ks ha; rw [e2]; omega
    · have := sumL_two h ks ha hb hne; have := h k; omega
theorem on_two (c : Cfg) {l : List Blk} {m : List Vote} (hm : RisesV m) {p k k' : ID} (hk : k ∈ kids l p) (hk' : k' ∈ kids l p) (hne : k ≠ k') : onC c l m k + onC c l m k' ≤ onC c l m p := by
  have ht := (kids_mem hk).1
  have h1 := on_splits c ht hm (id := p) (kids_chain hk).2.2
  have h2 : kids l p = kidsOf l p := by simp [kids, ht]
  rw [h2] at hk hk'
  have h3 := sumL_two (f := onC c l m) (fun x => (weightC_bd c _).1) _ hk hk' hne
  have h4 := (weightC_bd c (ownOf m p)).1
  omega
/-- What more is on than a half of all, and what is put on besides, is under the head. -/
theorem head_half (c : Cfg) {l : List Blk} {m : List Vote} (hm : RisesV m) {wt : ID → Int} {b : Int} (hb : 0 ≤ b) (hw : ∀ x, onC c l m x ≤ wt x ∧ wt x ≤ onC c l m x + b) {y : ID} (h : onC c l m zid + b < 2 * onC c l m y) : y ∈ chain l (headBy l wt) := by
  have hz := (weightC_bd c (whoOn l m zid)).1
  have hy : chain l y ≠ [] := fun e => by
    have h2 := on_unknown c (l := l) m e
    have h3 : 0 ≤ onC c l m zid := hz
    omega
  refine head_under hy (fun p k k' hk hk' hne hky => ?_)
  have h1 := on_two c hm hk hk' hne
  have h2 := onC_all c l m p
  have h3 := onC_low c l m hky
  have h4 := hw k
  have h5 := hw k'
  omega
/-! The boost. -/
def lmdW (c : Cfg) (l : List Blk) (m : List Vote) (bo : ID) (pct : Int) (x : ID) : Int := onC c l m x + (if bo ≠ zid ∧ x ∈ chain l bo then boostC c pct else 0)
noncomputable def lmdHead (c : Cfg) (l : List Blk) (m : List Vote) (bo : ID) (pct : Int) : ID := headBy l (lmdW c l m bo pct)
theorem lmdW_bd (c : Cfg) (l : List Blk) (m : List Vote) (bo : ID) (pct : Int) (x : ID) : onC c l m x ≤ lmdW c l m bo pct x ∧ lmdW c l m bo pct x ≤ onC c l m x + boostC c pct := by
  have := boostC_bd c pct
  unfold lmdW
  split <;> omega
theorem lmdW_plain (c : Cfg) (l : List Blk) (m : List Vote) (pct : Int) : lmdW c l m zid pct = onC c l m := by
  funext x
  simp [lmdW]
theorem lmdW_none (c : Cfg) (l : List Blk) (m : List Vote) (bo : ID) {pct : Int} (h : boostC c pct = 0) : lmdW c l m bo pct = onC c l m := by
  funext x
  simp [lmdW, h]
/-- LmdHalf. -/
theorem lmd_half (c : Cfg) {l : List Blk} {m : List Vote} (hm : RisesV m) (bo : ID) (pct : Int) {y : ID} (h : onC c l m zid + boostC c pct < 2 * onC c l m y) : y ∈ chain l (lmdHead c l m bo pct) :=
  head_half c hm (boostC_bd c pct).1 (lmdW_bd c l m bo pct) h
/-- LmdUp. -/
theorem lmd_up (c : Cfg) {l : List Blk} {m : List Vote} {bo : ID} {p q : Int} (hp : 0 ≤ p) (h : p ≤ q) (hq : q ≤ 100) (hu : bo ∈ chain l (lmdHead c l m bo p)) : bo ∈ chain l (lmdHead c l m bo q) := by
  have hb := boostC_mono c hp h hq
  by_cases hz : bo = zid
  · subst hz
    have ht : Tree l := Classical.byContradiction fun h => by rw [chain_notree h] at hu; simp at hu
    exact chain_zmem (head_known ht _)
  · refine head_raise (d := boostC c q - boostC c p) (by omega) (fun x => ?_) hu
    unfold lmdW
    by_cases hx : x ∈ chain l bo
    · simp only [hx, hz, ne_eq, not_false_iff, and_self, if_true]; omega
    · simp only [hx, and_false, if_false]; omega
/-- LmdBounds. -/
theorem lmd_low (c : Cfg) {l : List Blk} {m : List Vote} {bo : ID} {pct : Int} {low x : ID} (h : low ∈ chain l x) : lmdW c l m bo pct x ≤ lmdW c l m bo pct low := by
  have h1 := onC_low c l m h
  have h2 := boostC_bd c pct
  unfold lmdW
  by_cases hx : bo ≠ zid ∧ x ∈ chain l bo
  · rw [if_pos hx, if_pos ⟨hx.1, chain_trans hx.2 h⟩]; omega
  · rw [if_neg hx]; split <;> omega
/-- LmdNone. -/
theorem lmd_none (c : Cfg) {l : List Blk} {bo : ID} {pct : Int} (hb : boostC c pct ≠ 0) (hk : chain l bo ≠ []) : bo ∈ chain l (lmdHead c l [] bo pct) := by
  have hbd := boostC_bd c pct
  by_cases hz : bo = zid
  · subst hz
    have ht : Tree l := Classical.byContradiction fun h => hk (chain_notree h _)
    exact chain_zmem (head_known ht _)
  · refine head_under hk (fun p k k' h1 h2 hne h3 => ?_)
    have h4 : k' ∉ chain l bo := fun h => hne (kids_one h1 h2 h3 h)
    have h0 : ∀ x, onC c l [] x = 0 := fun x => weightC_nil c
    unfold lmdW
    rw [h0, h0]
    simp only [h3, h4, hz, ne_eq, not_false_iff, and_self, and_false, if_true, if_false]
    omega
end Go.Proofs.Ytdocgemfedohdaa
/-! Regions that draw their order: the first operations read, or call what only grows memory, in any order; the last ones follow in a row. -/
namespace Go.Proofs.Ytdocgemfedohdaa
open Go.RowKit
section
variable {P : Program} {ops : Array Oper} {md : Region.Mode} {C : World → Prop}
/-- The first n operations come up in any order, each quiet; what holds then is L. -/
def AnyHead (P : Program) (md : Region.Mode) (ops : Array Oper) (C : World → Prop) (n : Nat) (L : Array Bool → Act → Prop) : Nat → Array Bool → Act → Prop
  | 0, s, a => L s a
  | f + 1, s, a => Region.ready md ops s ≠ [] ∧ ∀ i ∈ Region.ready md ops s, i < n ∧ qOp P ops C i (AnyHead P md ops C n L f (s.setIfInBounds i true)) a
theorem anyHead_wp {n g : Nat} {L : Array Bool → Act → Prop} {Q : Exit → Act → World → Prop} (hL : ∀ s a w, C w → L s a → wpAny P md ops Q g s a w) :
    ∀ f s a w, C w → AnyHead P md ops C n L f s a → wpAny P md ops Q (f + g) s a w
  | 0, s, a, w, hw, h => by rw [Nat.zero_add]; exact hL _ _ _ hw h
  | f + 1, s, a, w, hw, h => by
    rw [show f + 1 + g = (f + g) + 1 by omega]
    exact ⟨fun e => absurd e h.1, fun i hi => wpOp_of_qOp hw (fun a' w' hw' h' => anyHead_wp hL f _ a' w' hw' h') (h.2 i hi).2⟩
theorem anyHead_first {n i : Nat} {oi : Oper} {v : Value} {L : Array Bool → Act → Prop} (hi : ops[i]? = some oi) (hsel : ∀ (j : Nat) (o : Oper) cs b, ops[j]? = some o → o.op ≠ .select cs b)
    (hs : Region.sinkB md ops n = true) (hc : Region.chainB md ops n = true) (hn : n < ops.size) (hin : i < n) (hdone : ∀ s a, L s a → ∀ j ∈ Region.ready md ops s, n ≤ j) :
    ∀ f s a, HeadInv md ops n s →
      (∀ j oj, ops[j]? = some oj → j ≠ i → s.getD j true = false → (∀ e ∈ oj.after, Region.binds md e = true → e.on ≠ i) → oi.apart ops oj = true) →
      i ∈ Region.ready md ops s → YieldsIn P ops C oi v a → AnyHead P md ops C n L f (s.setIfInBounds i true) (a.put oi.dst v) → AnyHead P md ops C n L (f + 1) s a := by
  intro f
  induction f with
  | zero =>
    intro s a inv _ hr hy H
    have hun := (mem_ready.1 hr).1
    refine ⟨fun e => (by rw [e] at hr; cases hr), fun j hj => ?_⟩
    have hjn : j < n := Nat.lt_of_not_le fun h => tail_waits hs hc hn inv _ i rfl hin hun j h hj
    refine ⟨hjn, ?_⟩
    by_cases e : j = i
    · subst e; exact hy.qOp hi H
    · exact absurd hjn (Nat.not_lt.2 (hdone _ _ H j (ready_mono hj e)))
  | succ f ih =>
    intro s a inv hfree hr hy H
    have hun := (mem_ready.1 hr).1
    refine ⟨fun e => (by rw [e] at hr; cases hr), fun j hj => ?_⟩
    have hjn : j < n := Nat.lt_of_not_le fun h => tail_waits hs hc hn inv _ i rfl hin hun j h hj
    refine ⟨hjn, ?_⟩
    by_cases e : j = i
    · subst e; exact hy.qOp hi H
    · have h1 := (H.2 j (ready_mono hj e)).2
      obtain ⟨hjun, oj, hoj, hall⟩ := mem_ready.1 hj
      have hnot : ∀ e ∈ oj.after, Region.binds md e = true → e.on ≠ i := fun e he hb heq => by
        have h2 := hall e he hb
        rw [heq, getD_both hun] at h2
        cases h2
      have h2 := qOp_put hoj (hfree j oj hoj e hjun hnot) (fun cs b => hsel i oi cs b hi) (fun cs b => hsel j oj cs b hoj) hy h1
      refine qOp_mono (fun a' h3 => ih (s.setIfInBounds j true) a' (inv.set hj hjn) (fun k ok hk hki hu hno => hfree k ok hk hki ?_ hno) (ready_mono hr (Ne.symm e)) h3.1 ?_) h2
      · by_cases hjk : j = k
        · subst hjk; exact hjun
        · rwa [getD_set_ne true hjk] at hu
      · rw [Array.setIfInBounds_comm _ _ e]
        exact h3.2
theorem anyHead_lex {n g : Nat} {Lq : Act → Prop} (hsel : Region.noSelect ops = true) (hs : Region.sinkB md ops n = true) (hc : Region.chainB md ops n = true) (hn : n < ops.size) :
    ∀ (l : List Oper) (k : Nat) (s : Array Bool) (a : Act), (∀ j, j < l.length → l[j]? = ops[k + j]?) → k + l.length = n → HeadInv md ops n s →
    Region.lexHead md ops g l.length k s = true → wpQuiet P ops C Lq l a →
    AnyHead P md ops C n (fun s' a' => Region.seqB md ops g n s' = true ∧ Lq a') l.length s a
  | [], k, s, a, _, hk, _, hB, h => by
    obtain rfl : k = n := by simpa using hk
    exact ⟨by simpa [Region.lexHead] using hB, h⟩
  | o :: l, k, s, a, hl, hk, inv, hB, h => by
    have h0 : ops[k]? = some o := by simpa using (hl 0 (by simp)).symm
    simp only [List.length_cons, Region.lexHead, Bool.and_eq_true] at hB
    obtain ⟨⟨hr, hf⟩, hB'⟩ := hB
    have hkn : k < n := by simp only [List.length_cons] at hk; omega
    have hr' : k ∈ Region.ready md ops s := by simpa using hr
    have hst : qOp P ops C k (wpQuiet P ops C Lq l) a := by unfold qOp; simp only [h0]; exact h
    obtain ⟨v, hy, hK⟩ := yieldsIn_of_qOp h0 hst
    exact anyHead_first h0 (Region.noSelect_spec hsel) hs hc hn hkn (fun s' a' hL => seqB_ready hL.1) l.length s a inv (Region.free_spec h0 hf) hr' hy
      (anyHead_lex hsel hs hc hn l (k + 1) _ _ (fun j hj => by have := hl (j + 1) (by simp; omega); simpa [Nat.add_assoc, Nat.add_comm 1 j] using this) (by simp only [List.length_cons] at hk; omega) (inv.set hr' hkn) hB' hK)
theorem wp_region_gr_tail {id : Nat} {Q : Exit → Act → World → Prop} {a : Act} {w : World} {l : List Oper} (n : Nat) (hm : P.follows .mixedOrders = true) (hB : Region.lexTailB .any l.toArray n = true)
    (h : wpQuiet P l.toArray (fun w' => ∃ p : GB, w' = gr w p) (fun a' => ∀ p : GB, wpList P l.toArray Q (l.drop n) a' (gr w p)) (l.take n) a) : (Code.region id l.toArray true).wp P Q a w := by
  simp only [Region.lexTailB, Bool.and_eq_true, decide_eq_true_eq] at hB
  obtain ⟨⟨⟨⟨hsel, hn⟩, hs⟩, hc⟩, hlex⟩ := hB
  have hn' : n < l.length := by simpa using hn
  have htl : (l.take n).length = n := by simp; omega
  have hdl : (l.drop n).length = l.toArray.size - n := by simp
  have inv0 : HeadInv .any l.toArray n (Array.replicate l.toArray.size false) :=
    ⟨by simp, fun j oj _ hl => (by rw [getD_replicate_false] at hl; cases hl), fun t _ ht => getD_in (by simpa using ht) (getD_replicate_false _ _)⟩
  have H := anyHead_lex (md := .any) (g := l.toArray.size - n) hsel hs hc hn (l.take n) 0 _ a (fun j hj => by
    have hj' : j < n := by rw [htl] at hj; exact hj
    simp [hj']) (by simpa using htl) inv0 (by rw [htl]; exact hlex) h
  refine wp_region_any hm ?_
  have := anyHead_wp (Q := Q) (g := l.toArray.size - n) (fun s a' w' hw' hL => by
    obtain ⟨p, rfl⟩ := hw'
    have := wpAny_of_seq (md := .any) (Q' := Q) (l.drop n) n s a' (gr w p) (fun j => by simp [List.getElem?_drop]) (by rw [hdl]; exact hL.1) (hL.2 p)
    rwa [hdl] at this) _ _ _ { w with drawn := w.drawn + 1 } (gr_of_below (below_drew0 w)) H
  rw [htl, show n + (l.toArray.size - n) = l.toArray.size by omega] at this
  exact this
end
theorem grown_cell {w W : World} {row : Option Nat} {p : Addr} {v : Value} (hg : w.grownBy W row) (hp : p.block < w.heap.size) (hne : some p.block ≠ row) (h : w.cell? p = some v) : W.cell? p = some v :=
  (World.cell?_of_block (w := w) (hg.block p.block hp hne)).trans h
theorem Rd.grown {α : Type} {k : Nat} {enc : α → List Value} {w W : World} {A : Option Addr} {xs : List α} {row : Option Nat} (h : Rd k enc w A xs) (hg : w.grownBy W row) (hne : ∀ a, A = some a → some a.block ≠ row) : Rd k enc W A xs := by
  refine ⟨h.1, fun hx => ?_⟩
  obtain ⟨b, o, hA, hlt, hc⟩ := h.2 hx
  exact ⟨b, o, hA, Nat.lt_of_lt_of_le hlt hg.size, fun i x hi j u hu => (World.cell?_of_block (w := w) (hg.block b hlt (hne _ hA))).trans (hc i x hi j u hu)⟩
end Go.Proofs.Ytdocgemfedohdaa
