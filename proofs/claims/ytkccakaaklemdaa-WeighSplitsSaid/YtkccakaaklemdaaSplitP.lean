/- What is on a block parts among what stands on it, and its own votes: the plain law. -/
import Derived.Test.YtkccakaaklemdaaTreeMore
import Derived.Test.YtkccakaaklemdaaVoteP
namespace Go.Proofs.Ytkccakaaklemdaa
theorem chain_len {l : List Blk} (ht : Tree l) {x y : ID} (h : y ∈ chain l x) : (chain l y).length ≤ (chain l x).length := by
  revert h
  refine chain_ind ht (P := fun _ ch => y ∈ ch → (chain l y).length ≤ ch.length) (fun _ h => by simp at h) ?_ ?_ x
  · intro h
    simp only [List.mem_singleton] at h
    subst h
    rw [chain_zid ht]; exact Nat.le_refl _
  · intro n hn ih h
    rcases List.mem_cons.1 h with rfl | h
    · rw [chain_cons ht hn]; exact Nat.le_refl _
    · have := ih h; simp only [List.length_cons]; omega
theorem name_notin {l : List Blk} (ht : Tree l) {n : Nat} (hn : n < l.length) : nameOf l[n] ∉ chain l l[n].par := fun h => by
  have := chain_len ht h
  rw [chain_cons ht hn] at this
  simp only [List.length_cons] at this
  omega
theorem par_chain {l : List Blk} (ht : Tree l) {n : Nat} (hn : n < l.length) : chain l l[n].par ≠ [] := by
  obtain ⟨r, hr⟩ := chain_head ht (par_mem ht hn)
  rw [hr]; simp
def sumL {α : Type} (f : α → Int) : List α → Int
  | [] => 0
  | k :: ks => f k + sumL f ks
theorem sumL_snoc {α : Type} (f : α → Int) (x : α) : ∀ ks : List α, sumL f (ks ++ [x]) = sumL f ks + f x
  | [] => by simp [sumL]
  | k :: ks => by simp only [List.cons_append, sumL]; rw [sumL_snoc f x ks]; omega
theorem sumL_add {α : Type} {f g h : α → Int} : ∀ ks : List α, (∀ k ∈ ks, f k = g k + h k) → sumL f ks = sumL g ks + sumL h ks
  | [], _ => by simp [sumL]
  | k :: ks, e => by
    have := sumL_add ks (fun k hk => e k (by simp [hk]))
    have := e k (by simp)
    simp only [sumL]; omega
theorem sumL_zero {α : Type} {f : α → Int} : ∀ ks : List α, (∀ k ∈ ks, f k = 0) → sumL f ks = 0
  | [], _ => rfl
  | k :: ks, e => by
    have := sumL_zero ks (fun k hk => e k (by simp [hk]))
    have := e k (by simp)
    simp only [sumL]; omega
theorem sumL_bd {α : Type} {f : α → Int} {B : Int} (h : ∀ k, 0 ≤ f k ∧ f k ≤ B) : ∀ ks : List α, 0 ≤ sumL f ks ∧ sumL f ks ≤ ks.length * B
  | [] => by simp [sumL]
  | k :: ks => by
    have := sumL_bd h ks
    have := h k
    simp only [sumL, List.length_cons]
    rw [show ((ks.length + 1 : Nat) : Int) * B = ks.length * B + B by rw [Int.natCast_add, Int.add_mul]; simp]
    omega
def ind (b : Bool) : Int := if b then 1 else 0
theorem sumL_one {b : List Blk} {x : ID} {p : Prop} [Decidable p] : (∀ i j (hi : i < b.length) (hj : j < b.length), nameOf b[i] = nameOf b[j] → i = j) → ∀ (id : ID), (∀ c ∈ b, nameOf c = x → (c.par = id ↔ p)) → sumL (fun k => ind (decide (k = x))) (kidsOf b id) = ind (decide (p ∧ ∃ c ∈ b, nameOf c = x)) := by
  induction b with
  | nil => intro _ _ _; simp [kidsOf, sumL, ind]
  | cons c b ih =>
    intro hu id hp
    have ih' := ih (fun i j hi hj h => by
      have := hu (i + 1) (j + 1) (by simpa using hi) (by simpa using hj) (by simpa using h)
      omega) id (fun d hd => hp d (by simp [hd]))
    have hno : ∀ d ∈ b, nameOf d ≠ nameOf c := fun d hd e => by
      obtain ⟨i, hi, rfl⟩ := List.getElem_of_mem hd
      have := hu (i + 1) 0 (by simpa using hi) (by simp) (by simpa using e)
      omega
    unfold kidsOf at *
    by_cases hc : c.par = id
    · simp only [List.filter_cons, hc, decide_true, if_true, List.map_cons, sumL]
      rw [ih']
      by_cases hx : nameOf c = x
      · have hp1 := (hp c (by simp) hx).1 hc
        have h1 : ¬ ∃ c ∈ b, nameOf c = x := fun ⟨d, hd, e⟩ => hno d hd (e.trans hx.symm)
        simp [hx, hp1, h1, ind]
      · simp [hx, ind]
    · have : decide (c.par = id) = false := by simpa using hc
      simp only [List.filter_cons, this, Bool.false_eq_true, if_false]
      rw [ih']
      by_cases hx : nameOf c = x
      · have hp1 : ¬ p := fun h => hc ((hp c (by simp) hx).2 h)
        simp [hp1]
      · simp [hx]
theorem kids_zid {l : List Blk} (ht : Tree l) {k id : ID} (h : k ∈ kidsOf l id) : k ≠ zid := by
  unfold kidsOf at h
  obtain ⟨b, hb, rfl⟩ := List.mem_map.1 h
  obtain ⟨n, hn, rfl⟩ := List.getElem_of_mem (List.mem_filter.1 hb).1
  exact (ht n hn).1
/-- Whether a block stands on another one: it is the block, or stands on just one of its children. -/
theorem on_parts {l : List Blk} (ht : Tree l) (id x : ID) : ind (decide (id ∈ chain l x)) = ind (decide (x = id ∧ chain l x ≠ [])) + sumL (fun k => ind (decide (k ∈ chain l x))) (kidsOf l id) := by
  refine chain_ind ht (P := fun x ch => ind (decide (id ∈ ch)) = ind (decide (x = id ∧ ch ≠ [])) + sumL (fun k => ind (decide (k ∈ ch))) (kidsOf l id)) ?_ ?_ ?_ x
  · intro x
    rw [sumL_zero _ (fun k _ => by simp [ind])]
    simp [ind]
  · rw [sumL_zero _ (fun k hk => by simp [ind, kids_zid ht hk])]
    by_cases h : id = zid
    · subst h; simp [ind]
    · have h' : ¬ zid = id := fun e => h e.symm
      simp [ind, h, h']
  · intro n hn ih
    have hne := name_notin ht hn
    have hpc := par_chain ht hn
    have hsum : sumL (fun k => ind (decide (k ∈ nameOf l[n] :: chain l l[n].par))) (kidsOf l id) = sumL (fun k => ind (decide (k = nameOf l[n]))) (kidsOf l id) + sumL (fun k => ind (decide (k ∈ chain l l[n].par))) (kidsOf l id) := by
      refine sumL_add _ fun k _ => ?_
      by_cases hk : k = nameOf l[n]
      · subst hk; simp [ind, hne]
      · simp [ind, hk]
    have hone := sumL_one (p := l[n].par = id) (x := nameOf l[n]) (b := l) (fun i j hi hj h => tree_inj ht hi hj h) id (fun c hc e => by
      obtain ⟨m, hm, rfl⟩ := List.getElem_of_mem hc
      have := tree_inj ht hm hn e
      subst this
      exact Iff.rfl)
    rw [hsum, hone]
    have hex : ∃ c ∈ l, nameOf c = nameOf l[n] := ⟨_, List.getElem_mem hn, rfl⟩
    by_cases h1 : id = nameOf l[n]
    · have h2 : id ∉ chain l l[n].par := by rw [h1]; exact hne
      have h3 : ¬ l[n].par = id := fun e => by
        apply h2
        rw [e]; rw [e] at hpc
        exact chain_self hpc
      have hz : ind (decide (l[n].par = id ∧ chain l l[n].par ≠ [])) = 0 := by simp [ind, h3]
      have hy : ind (decide (id ∈ chain l l[n].par)) = 0 := by simp [ind, h2]
      have hw : ind (decide (l[n].par = id ∧ ∃ c ∈ l, nameOf c = nameOf l[n])) = 0 := by simp [ind, h3]
      have hv : ind (decide (id ∈ nameOf l[n] :: chain l l[n].par)) = 1 := by simp [ind, h1]
      have hu : ind (decide (nameOf l[n] = id ∧ nameOf l[n] :: chain l l[n].par ≠ [])) = 1 := by simp [ind, h1]
      omega
    · have hv : ind (decide (id ∈ nameOf l[n] :: chain l l[n].par)) = ind (decide (id ∈ chain l l[n].par)) := by simp [h1]
      have hu : ind (decide (nameOf l[n] = id ∧ nameOf l[n] :: chain l l[n].par ≠ [])) = 0 := by
        have : ¬ nameOf l[n] = id := fun e => h1 e.symm
        simp [ind, this]
      have hw : ind (decide (l[n].par = id ∧ ∃ c ∈ l, nameOf c = nameOf l[n])) = ind (decide (l[n].par = id ∧ chain l l[n].par ≠ [])) := by
        congr 1
        apply decide_eq_decide.2
        exact ⟨fun h => ⟨h.1, hpc⟩, fun h => ⟨h.1, hex⟩⟩
      omega
/-- Whose votes are for a block itself. -/
def ownOf (m : List Vote) (id : ID) : List Int := (m.filter fun v => decide (v.head = id)).map Vote.frm
theorem ownOf_snoc {vs : List Vote} {id : ID} {k : Nat} (hlt : k < vs.length) : ownOf (vs.take (k + 1)) id = ownOf (vs.take k) id ++ (if vs[k].head = id then [vs[k].frm] else []) := by
  unfold ownOf
  rw [← List.take_append_getElem hlt, List.filter_append, List.map_append]
  by_cases h : vs[k].head = id <;> simp [h]
theorem ownOf_len (vs : List Vote) (id : ID) : (ownOf vs id).length ≤ vs.length := by
  unfold ownOf
  rw [List.length_map]
  exact List.length_filter_le _ _
theorem mem_whoOn {l : List Blk} {m : List Vote} {id : ID} {i : Int} : i ∈ whoOn l m id ↔ ∃ v ∈ m, id ∈ chain l v.head ∧ v.frm = i := by
  unfold whoOn
  simp only [List.mem_map, List.mem_filter, decide_eq_true_eq]
  exact ⟨fun ⟨v, ⟨h1, h2⟩, h3⟩ => ⟨v, h1, h2, h3⟩, fun ⟨v, h1, h2, h3⟩ => ⟨v, ⟨h1, h2⟩, h3⟩⟩
theorem mem_ownOf {m : List Vote} {id : ID} {i : Int} : i ∈ ownOf m id ↔ ∃ v ∈ m, v.head = id ∧ v.frm = i := by
  unfold ownOf
  simp only [List.mem_map, List.mem_filter, decide_eq_true_eq]
  exact ⟨fun ⟨v, ⟨h1, h2⟩, h3⟩ => ⟨v, h1, h2, h3⟩, fun ⟨v, h1, h2, h3⟩ => ⟨v, ⟨h1, h2⟩, h3⟩⟩
theorem who_parts {l : List Blk} (ht : Tree l) {m : List Vote} (hm : RisesV m) {id : ID} (hid : chain l id ≠ []) (i : Int) :
    ind (decide (i ∈ whoOn l m id)) = ind (decide (i ∈ ownOf m id)) + sumL (fun k => ind (decide (i ∈ whoOn l m k))) (kidsOf l id) := by
  by_cases hex : ∃ v ∈ m, v.frm = i
  · obtain ⟨v, hv, rfl⟩ := hex
    have hw : ∀ y, v.frm ∈ whoOn l m y ↔ y ∈ chain l v.head := fun y => by
      rw [mem_whoOn]
      exact ⟨fun ⟨u, hu, h1, h2⟩ => by rw [← risesV_inj hm hu hv h2]; exact h1, fun h => ⟨v, hv, h, rfl⟩⟩
    have ho : v.frm ∈ ownOf m id ↔ v.head = id := by
      rw [mem_ownOf]
      exact ⟨fun ⟨u, hu, h1, h2⟩ => by rw [← risesV_inj hm hu hv h2]; exact h1, fun h => ⟨v, hv, h, rfl⟩⟩
    have := on_parts ht id v.head
    simp only [hw, ho]
    rw [this]
    congr 1
    congr 1
    apply decide_eq_decide.2
    exact ⟨fun h => h.1, fun h => ⟨h, by rw [h]; exact hid⟩⟩
  · have hw : ∀ y, i ∉ whoOn l m y := fun y h => by
      obtain ⟨v, hv, _, e⟩ := mem_whoOn.1 h
      exact hex ⟨v, hv, e⟩
    have ho : i ∉ ownOf m id := fun h => by
      obtain ⟨v, hv, _, e⟩ := mem_ownOf.1 h
      exact hex ⟨v, hv, e⟩
    rw [sumL_zero _ (fun k _ => by simp [ind, hw])]
    simp [ind, hw, ho]
theorem sumL_mul {α : Type} (f : α → Int) (x : Int) : ∀ ks : List α, sumL (fun k => f k * x) ks = sumL f ks * x
  | [] => by simp [sumL]
  | k :: ks => by simp only [sumL]; rw [sumL_mul f x ks, Int.add_mul]
theorem ind_mul (b : Bool) (x : Int) : (if b = true then x else 0) = ind b * x := by cases b <;> simp [ind]
theorem wsum_parts (W : List Int) {p q : Nat → Bool} {α : Type} {r : α → Nat → Bool} {ks : List α} (h : ∀ i, ind (p i) = ind (q i) + sumL (fun y => ind (r y i)) ks) (k : Nat) :
    wsumTo W p k = wsumTo W q k + sumL (fun y => wsumTo W (r y) k) ks := by
  induction k with
  | zero => simp only [wsumTo]; rw [sumL_zero _ (fun _ _ => rfl)]; rfl
  | succ k ih =>
    have e := sumL_add (f := fun y => wsumTo W (r y) (k + 1)) (g := fun y => wsumTo W (r y) k) (h := fun y => ind (r y k) * W[k]?.getD 0) ks (fun y _ => by simp only [wsumTo]; rw [ind_mul])
    rw [e, sumL_mul]
    simp only [wsumTo]
    rw [ih, ind_mul, ind_mul, h k, Int.add_mul]
    omega
theorem on_splits (c : Cfg) {l : List Blk} (ht : Tree l) {m : List Vote} (hm : RisesV m) {id : ID} (hid : chain l id ≠ []) :
    onC c l m id = sumL (onC c l m) (kidsOf l id) + weightC c (ownOf m id) := by
  unfold onC weightC
  by_cases hc : MayC c
  · simp only [if_pos hc]
    rw [wsum_parts c.W (q := fun i => decide ((i : Int) ∈ ownOf m id)) (r := fun y i => decide ((i : Int) ∈ whoOn l m y)) (ks := kidsOf l id) (fun i => who_parts ht hm hid i)]
    omega
  · simp only [if_neg hc]
    rw [sumL_zero _ (fun _ _ => rfl)]
    rfl
theorem on_unknown (c : Cfg) {l : List Blk} (m : List Vote) {id : ID} (hid : chain l id = []) : onC c l m id = 0 := by
  have : whoOn l m id = [] := by
    unfold whoOn
    rw [List.map_eq_nil_iff, List.filter_eq_nil_iff]
    intro v _
    simp only [decide_eq_true_eq]
    intro h
    exact chain_mem h hid
  unfold onC
  rw [this, weightC_nil]
end Go.Proofs.Ytkccakaaklemdaa
