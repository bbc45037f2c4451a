/- GE: several texts in one. -/
import Derived.Test.YtaohkcdfjjiggaaGreatGC
import Derived.Test.YtaohkcdfjjiggaaGreatGD
import Derived.Test.YtaohkcdfjjiggaaGreatGA
/-! More on chains and on what some weigh: plain laws. -/
namespace Go.Proofs.YtaohkcdfjjiggaaGreat
theorem tree_ind {l : List Blk} (ht : Tree l) {P : ID → Prop} (h0 : P zid) (hs : ∀ n (hn : n < l.length), P l[n].par → P (nameOf l[n])) : ∀ n (hn : n < l.length), P (nameOf l[n]) := by
  intro n
  induction n using Nat.strongRecOn with
  | ind n ih =>
    intro hn
    apply hs n hn
    rcases (ht n hn).2.2 with h | ⟨_, c, hc, h, _⟩
    · rw [h.1]; exact h0
    · obtain ⟨j, hj, rfl⟩ := List.getElem_of_mem hc
      simp only [List.length_take] at hj
      rw [← h]
      simp only [List.getElem_take]
      exact ih j (by omega) (by omega)
theorem known_or {l : List Blk} (x : ID) : x = zid ∨ (∃ (n : Nat) (hn : n < l.length), nameOf l[n] = x) ∨ (chain l x = [] ∧ x ≠ zid ∧ ∀ b ∈ l, nameOf b ≠ x) := by
  by_cases hx : x = zid
  · exact .inl hx
  · by_cases hb : ∃ b ∈ l, nameOf b = x
    · obtain ⟨b, hb, e⟩ := hb
      obtain ⟨n, hn, rfl⟩ := List.getElem_of_mem hb
      exact .inr (.inl ⟨n, hn, e⟩)
    · have hb' : ∀ b ∈ l, nameOf b ≠ x := fun b h e => hb ⟨b, h, e⟩
      exact .inr (.inr ⟨chain_unknown hx hb', hx, hb'⟩)
theorem chain_ind {l : List Blk} (ht : Tree l) {P : ID → List ID → Prop} (hn : ∀ x, P x []) (h0 : P zid [zid]) (hs : ∀ n (hn : n < l.length), P l[n].par (chain l l[n].par) → P (nameOf l[n]) (nameOf l[n] :: chain l l[n].par)) (x : ID) : P x (chain l x) := by
  rcases known_or (l := l) x with rfl | ⟨n, hlt, rfl⟩ | ⟨h, _⟩
  · rw [chain_zid ht]; exact h0
  · refine tree_ind ht (P := fun x => P x (chain l x)) (by rw [chain_zid ht]; exact h0) (fun n hlt ih => ?_) n hlt
    rw [chain_cons ht hlt]
    exact hs n hlt ih
  · rw [h]; exact hn x
theorem chain_trans {l : List Blk} {x id y : ID} (h1 : id ∈ chain l x) (h2 : y ∈ chain l id) : y ∈ chain l x := by
  by_cases ht : Tree l
  · revert h1 h2
    refine chain_ind ht (P := fun _ ch => id ∈ ch → y ∈ chain l id → y ∈ ch) (fun _ h => by simp at h) ?_ ?_ x
    · intro h1 h2
      simp only [List.mem_singleton] at h1
      subst h1
      rwa [chain_zid ht] at h2
    · intro n hn ih h1 h2
      rcases List.mem_cons.1 h1 with rfl | h1
      · rwa [chain_cons ht hn] at h2
      · exact List.mem_cons_of_mem _ (ih h1 h2)
  · rw [chain_notree ht] at h1; simp at h1
theorem chain_zmem {l : List Blk} {x : ID} (h : chain l x ≠ []) : zid ∈ chain l x := by
  by_cases ht : Tree l
  · revert h
    refine chain_ind ht (P := fun _ ch => ch ≠ [] → zid ∈ ch) (fun _ h => absurd rfl h) (by simp) ?_ x
    intro n hn ih _
    apply List.mem_cons_of_mem
    apply ih
    obtain ⟨r, hr⟩ := chain_head ht (par_mem ht hn)
    rw [hr]; simp
  · rw [chain_notree ht] at h; exact absurd rfl h
theorem chain_self {l : List Blk} {x : ID} (h : chain l x ≠ []) : x ∈ chain l x := by
  by_cases ht : Tree l
  · rcases known_or (l := l) x with rfl | ⟨n, hlt, rfl⟩ | ⟨h', _⟩
    · rw [chain_zid ht]; simp
    · rw [chain_cons ht hlt]; simp
    · exact absurd h' h
  · rw [chain_notree ht] at h; exact absurd rfl h
theorem chain_mem {l : List Blk} {x y : ID} (h : y ∈ chain l x) : chain l y ≠ [] := by
  by_cases ht : Tree l
  · revert h
    refine chain_ind ht (P := fun _ ch => y ∈ ch → chain l y ≠ []) (fun _ h => by simp at h) ?_ ?_ x
    · intro h; simp only [List.mem_singleton] at h; subst h; rw [chain_zid ht]; simp
    · intro n hn ih h
      rcases List.mem_cons.1 h with rfl | h
      · rw [chain_cons ht hn]; simp
      · exact ih h
  · rw [chain_notree ht] at h; simp at h
theorem chain_known {l : List Blk} {x : ID} (h : chain l x ≠ []) : x = zid ∨ ∃ b ∈ l, nameOf b = x := by
  rcases known_or (l := l) x with rfl | ⟨n, hlt, rfl⟩ | ⟨h', _⟩
  · exact .inl rfl
  · exact .inr ⟨_, List.getElem_mem hlt, rfl⟩
  · exact absurd h' h
theorem tree_app {l : List Blk} {b : Blk} (h : Tree (l ++ [b])) : Tree l ∧ Okb l b := by
  have hk : l.length < (l ++ [b]).length := by simp
  have h' : Tree ((l ++ [b]).take (l.length + 1)) := by rw [List.take_of_length_le (by simp)]; exact h
  obtain ⟨h1, h2⟩ := (tree_snoc hk).1 h'
  rw [List.take_left] at h1 h2
  rw [List.getElem_concat_length rfl] at h2
  exact ⟨h1, h2⟩
/-- One block more turns no other chain. -/
theorem chain_snoc {l : List Blk} {b : Blk} (ht : Tree (l ++ [b])) {x : ID} (hx : x ≠ nameOf b) : chain (l ++ [b]) x = chain l x := by
  obtain ⟨htl, hb⟩ := tree_app ht
  have hk : ∀ n (hn : n < l.length), chain (l ++ [b]) (nameOf l[n]) = chain l (nameOf l[n]) := by
    refine tree_ind htl (P := fun x => chain (l ++ [b]) x = chain l x) (by rw [chain_zid ht, chain_zid htl]) (fun n hn ih => ?_)
    have hn' : n < (l ++ [b]).length := by simp; omega
    have e : (l ++ [b])[n] = l[n] := List.getElem_append_left hn
    have := chain_cons ht hn'
    rw [e] at this
    rw [this, chain_cons htl hn, ih]
  rcases known_or (l := l) x with rfl | ⟨n, hlt, rfl⟩ | ⟨h', h0, hn⟩
  · rw [chain_zid ht, chain_zid htl]
  · exact hk n hlt
  · rw [h']
    refine chain_unknown h0 (fun c hc => ?_)
    rcases List.mem_append.1 hc with hc | hc
    · exact hn c hc
    · simp only [List.mem_singleton] at hc; subst hc; exact fun e => hx e.symm
theorem chain_new {l : List Blk} {b : Blk} (ht : Tree (l ++ [b])) (x : ID) : nameOf b ∉ chain l x := by
  obtain ⟨htl, hb⟩ := tree_app ht
  intro h
  rcases chain_known (chain_mem h) with e | ⟨c, hc, e⟩
  · exact hb.1 e
  · exact hb.2.1 c hc e
/-! What some weigh. -/
theorem wsumTo_mono {W : List Int} (h : ∀ x ∈ W, 0 ≤ x ∧ x ≤ 1099511627776) {p q : Nat → Bool} (hpq : ∀ i, p i = true → q i = true) (k : Nat) : wsumTo W p k ≤ wsumTo W q k := by
  induction k with
  | zero => simp [wsumTo]
  | succ k ih =>
    simp only [wsumTo]
    have hx : 0 ≤ W[k]?.getD 0 := by
      cases hk : W[k]? with
      | none => simp
      | some x => exact (h x (List.mem_of_getElem? hk)).1
    have := hpq k
    cases hp : p k <;> cases hq : q k <;> simp_all <;> omega
theorem weightC_mono (c : Cfg) {a b : List Int} (h : ∀ x ∈ a, x ∈ b) : weightC c a ≤ weightC c b := by
  unfold weightC
  split
  · rename_i hm
    exact wsumTo_mono hm.W (fun i hi => by simp only [decide_eq_true_eq] at hi ⊢; exact h _ hi) _
  · omega
theorem weightC_total (c : Cfg) (a : List Int) : weightC c a ≤ totalC c := by
  unfold weightC totalC
  split
  · rename_i hm
    exact wsumTo_mono hm.W (fun _ _ => rfl) _
  · omega
theorem weightC_bd (c : Cfg) (a : List Int) : 0 ≤ weightC c a ∧ weightC c a ≤ 13194139533312 := by
  unfold weightC
  split
  · rename_i hm
    have := wsumTo_bd hm.W (fun i => decide ((i : Int) ∈ a)) c.W.length
    have := hm.len
    omega
  · omega
theorem whoOn_sub {l : List Blk} {vs vs' : List Vote} {id id' : ID} (h : ∀ v ∈ vs, id ∈ chain l v.head → v ∈ vs' ∧ id' ∈ chain l v.head) : ∀ x ∈ whoOn l vs id, x ∈ whoOn l vs' id' := by
  intro x hx
  unfold whoOn at *
  obtain ⟨v, hv, rfl⟩ := List.mem_map.1 hx
  rw [List.mem_filter] at hv
  obtain ⟨h1, h2⟩ := hv
  simp only [decide_eq_true_eq] at h2
  obtain ⟨h3, h4⟩ := h v h1 h2
  exact List.mem_map.2 ⟨v, List.mem_filter.2 ⟨h3, by simpa using h4⟩, rfl⟩
theorem onC_more (c : Cfg) (l : List Blk) (vs : List Vote) (x : Vote) (id : ID) : onC c l vs id ≤ onC c l (vs ++ [x]) id :=
  weightC_mono c (whoOn_sub fun _ hv h => ⟨List.mem_append_left _ hv, h⟩)
theorem onC_all (c : Cfg) (l : List Blk) (vs : List Vote) (id : ID) : onC c l vs id ≤ onC c l vs zid :=
  weightC_mono c (whoOn_sub fun _ hv h => ⟨hv, chain_zmem (fun e => by rw [e] at h; simp at h)⟩)
theorem onC_low (c : Cfg) (l : List Blk) (vs : List Vote) {low id : ID} (h : low ∈ chain l id) : onC c l vs id ≤ onC c l vs low :=
  weightC_mono c (whoOn_sub fun _ hv h' => ⟨hv, chain_trans h' h⟩)
theorem onC_snoc (c : Cfg) {l : List Blk} {b : Blk} (vs : List Vote) (id : ID) (ht : Tree (l ++ [b])) (hv : ∀ v ∈ vs, v.head ≠ nameOf b) : onC c (l ++ [b]) vs id = onC c l vs id := by
  unfold onC
  congr 1
  unfold whoOn
  congr 1
  apply List.filter_congr
  intro v hm
  rw [chain_snoc ht (hv v hm)]
theorem onC_new (c : Cfg) {l : List Blk} {b : Blk} (vs : List Vote) (ht : Tree (l ++ [b])) (hv : ∀ v ∈ vs, v.head ≠ nameOf b) : onC c (l ++ [b]) vs (nameOf b) = 0 := by
  have : whoOn (l ++ [b]) vs (nameOf b) = [] := by
    unfold whoOn
    rw [List.map_eq_nil_iff, List.filter_eq_nil_iff]
    intro v hm
    rw [chain_snoc ht (hv v hm)]
    simpa using chain_new ht v.head
  unfold onC
  rw [this, weightC_nil]
/-! All weigh twice as much. -/
def dbl (c : Cfg) : Cfg := { c with W := c.W.map (2 * ·) }
theorem wsumTo_dbl (W : List Int) (p : Nat → Bool) (k : Nat) : wsumTo (W.map (2 * ·)) p k = 2 * wsumTo W p k := by
  induction k with
  | zero => simp [wsumTo]
  | succ k ih =>
    simp only [wsumTo, ih, List.getElem?_map]
    cases hW : W[k]? <;> cases hp : p k <;> simp <;> omega
theorem onC_dbl {c : Cfg} (hm : MayC c) (hs : ∀ x ∈ c.W, x ≤ 549755813888) (l : List Blk) (vs : List Vote) (id : ID) : onC (dbl c) l vs id = 2 * onC c l vs id := by
  have hd : MayC (dbl c) := by
    obtain ⟨⟨h1, h2, h3⟩, h4⟩ := hm
    refine ⟨⟨by simpa [dbl] using h1, by simpa [dbl] using h2, fun x hx => ?_⟩, h4⟩
    obtain ⟨y, hy, rfl⟩ := List.mem_map.1 hx
    have := h3 y hy
    have := hs y hy
    omega
  unfold onC weightC
  rw [if_pos hd, if_pos hm]
  simp only [dbl, List.length_map]
  exact wsumTo_dbl _ _ _
end Go.Proofs.YtaohkcdfjjiggaaGreat
/-! What is on a block parts among what stands on it, and its own votes: the plain law. -/
namespace Go.Proofs.YtaohkcdfjjiggaaGreat
theorem chain_len {l : List Blk} (ht : Tree l) {x y : ID} (h : y ∈ chain l x) : (chain l y).length ≤ (chain l x).length := by
  revert h
  refine chain_ind ht (P := fun _ ch => y ∈ ch → (chain l y).length ≤ ch.length) (fun _ h => by simp at h) ?_ ?_ x
  · intro h
    simp only [List.mem_singleton] at h
    subst h
    rw [chain_zid ht]; exact Nat.le_refl _
  · intro n hn ih h
    rcases List.mem_cons.1 h with rfl | h
    · rw [chain_cons ht hn]; exact Nat.le_refl _
    · have := ih h; simp only [List.length_cons]; omega
theorem name_notin {l : List Blk} (ht : Tree l) {n : Nat} (hn : n < l.length) : nameOf l[n] ∉ chain l l[n].par := fun h => by
  have := chain_len ht h
  rw [chain_cons ht hn] at this
  simp only [List.length_cons] at this
  omega
theorem par_chain {l : List Blk} (ht : Tree l) {n : Nat} (hn : n < l.length) : chain l l[n].par ≠ [] := by
  obtain ⟨r, hr⟩ := chain_head ht (par_mem ht hn)
  rw [hr]; simp
def sumL {α : Type} (f : α → Int) : List α → Int
  | [] => 0
  | k :: ks => f k + sumL f ks
theorem sumL_snoc {α : Type} (f : α → Int) (x : α) : ∀ ks : List α, sumL f (ks ++ [x]) = sumL f ks + f x
  | [] => by simp [sumL]
  | k :: ks => by simp only [List.cons_append, sumL]; rw [sumL_snoc f x ks]; omega
theorem sumL_add {α : Type} {f g h : α → Int} : ∀ ks : List α, (∀ k ∈ ks, f k = g k + h k) → sumL f ks = sumL g ks + sumL h ks
  | [], _ => by simp [sumL]
  | k :: ks, e => by
    have := sumL_add ks (fun k hk => e k (by simp [hk]))
    have := e k (by simp)
    simp only [sumL]; omega
theorem sumL_zero {α : Type} {f : α → Int} : ∀ ks : List α, (∀ k ∈ ks, f k = 0) → sumL f ks = 0
  | [], _ => rfl
  | k :: ks, e => by
    have := sumL_zero ks (fun k hk => e k (by simp [hk]))
    have := e k (by simp)
    simp only [sumL]; omega
theorem sumL_bd {α : Type} {f : α → Int} {B : Int} (h : ∀ k, 0 ≤ f k ∧ f k ≤ B) : ∀ ks : List α, 0 ≤ sumL f ks ∧ sumL f ks ≤ ks.length * B
  | [] => by simp [sumL]
  | k :: ks => by
    have := sumL_bd h ks
    have := h k
    simp only [sumL, List.length_cons]
    rw [show ((ks.length + 1 : Nat) : Int) * B = ks.length * B + B by rw [Int.natCast_add, Int.add_mul]; simp]
    omega
def ind (b : Bool) : Int := if b then 1 else 0
theorem sumL_one {b : List Blk} {x : ID} {p : Prop} [Decidable p] : (∀ i j (hi : i < b.length) (hj : j < b.length), nameOf b[i] = nameOf b[j] → i = j) → ∀ (id : ID), (∀ c ∈ b, nameOf c = x → (c.par = id ↔ p)) → sumL (fun k => ind (decide (k = x))) (kidsOf b id) = ind (decide (p ∧ ∃ c ∈ b, nameOf c = x)) := by
  induction b with
  | nil => intro _ _ _; simp [kidsOf, sumL, ind]
  | cons c b ih =>
    intro hu id hp
    have ih' := ih (fun i j hi hj h => by
      have := hu (i + 1) (j + 1) (by simpa using hi) (by simpa using hj) (by simpa using h)
      omega) id (fun d hd => hp d (by simp [hd]))
    have hno : ∀ d ∈ b, nameOf d ≠ nameOf c := fun d hd e => by
      obtain ⟨i, hi, rfl⟩ := List.getElem_of_mem hd
      have := hu (i + 1) 0 (by simpa using hi) (by simp) (by simpa using e)
      omega
    unfold kidsOf at *
    by_cases hc : c.par = id
    · simp only [List.filter_cons, hc, decide_true, if_true, List.map_cons, sumL]
      rw [ih']
      by_cases hx : nameOf c = x
      · have hp1 := (hp c (by simp) hx).1 hc
        have h1 : ¬ ∃ c ∈ b, nameOf c = x := fun ⟨d, hd, e⟩ => hno d hd (e.trans hx.symm)
        simp [hx, hp1, h1, ind]
      · simp [hx, ind]
    · have : decide (c.par = id) = false := by simpa using hc
      simp only [List.filter_cons, this, Bool.false_eq_true, if_false]
      rw [ih']
      by_cases hx : nameOf c = x
      · have hp1 : ¬ p := fun h => hc ((hp c (by simp) hx).2 h)
        simp [hp1]
      · simp [hx]
theorem kids_zid {l : List Blk} (ht : Tree l) {k id : ID} (h : k ∈ kidsOf l id) : k ≠ zid := by
  unfold kidsOf at h
  obtain ⟨b, hb, rfl⟩ := List.mem_map.1 h
  obtain ⟨n, hn, rfl⟩ := List.getElem_of_mem (List.mem_filter.1 hb).1
  exact (ht n hn).1
/-- Whether a block stands on another one: it is the block, or stands on just one of its children. -/
theorem on_parts {l : List Blk} (ht : Tree l) (id x : ID) : ind (decide (id ∈ chain l x)) = ind (decide (x = id ∧ chain l x ≠ [])) + sumL (fun k => ind (decide (k ∈ chain l x))) (kidsOf l id) := by
  refine chain_ind ht (P := fun x ch => ind (decide (id ∈ ch)) = ind (decide (x = id ∧ ch ≠ [])) + sumL (fun k => ind (decide (k ∈ ch))) (kidsOf l id)) ?_ ?_ ?_ x
  · intro x
    rw [sumL_zero _ (fun k _ => by simp [ind])]
    simp [ind]
  · rw [sumL_zero _ (fun k hk => by simp [ind, kids_zid ht hk])]
    by_cases h : id = zid
    · subst h; simp [ind]
    · have h' : ¬ zid = id := fun e => h e.symm
      simp [ind, h, h']
  · intro n hn ih
    have hne := name_notin ht hn
    have hpc := par_chain ht hn
    have hsum : sumL (fun k => ind (decide (k ∈ nameOf l[n] :: chain l l[n].par))) (kidsOf l id) = sumL (fun k => ind (decide (k = nameOf l[n]))) (kidsOf l id) + sumL (fun k => ind (decide (k ∈ chain l l[n].par))) (kidsOf l id) := by
      refine sumL_add _ fun k _ => ?_
      by_cases hk : k = nameOf l[n]
      · subst hk; simp [ind, hne]
      · simp [ind, hk]
    have hone := sumL_one (p := l[n].par = id) (x := nameOf l[n]) (b := l) (fun i j hi hj h => tree_inj ht hi hj h) id (fun c hc e => by
      obtain ⟨m, hm, rfl⟩ := List.getElem_of_mem hc
      have := tree_inj ht hm hn e
      subst this
      exact Iff.rfl)
    rw [hsum, hone]
    have hex : ∃ c ∈ l, nameOf c = nameOf l[n] := ⟨_, List.getElem_mem hn, rfl⟩
    by_cases h1 : id = nameOf l[n]
    · have h2 : id ∉ chain l l[n].par := by rw [h1]; exact hne
      have h3 : ¬ l[n].par = id := fun e => by
        apply h2
        rw [e]; rw [e] at hpc
        exact chain_self hpc
      have hz : ind (decide (l[n].par = id ∧ chain l l[n].par ≠ [])) = 0 := by simp [ind, h3]
      have hy : ind (decide (id ∈ chain l l[n].par)) = 0 := by simp [ind, h2]
      have hw : ind (decide (l[n].par = id ∧ ∃ c ∈ l, nameOf c = nameOf l[n])) = 0 := by simp [ind, h3]
      have hv : ind (decide (id ∈ nameOf l[n] :: chain l l[n].par)) = 1 := by simp [ind, h1]
      have hu : ind (decide (nameOf l[n] = id ∧ nameOf l[n] :: chain l l[n].par ≠ [])) = 1 := by simp [ind, h1]
      omega
    · have hv : ind (decide (id ∈ nameOf l[n] :: chain l l[n].par)) = ind (decide (id ∈ chain l l[n].par)) := by simp [h1]
      have hu : ind (decide (nameOf l[n] = id ∧ nameOf l[n] :: chain l l[n].par ≠ [])) = 0 := by
        have : ¬ nameOf l[n] = id := fun e => h1 e.symm
        simp [ind, this]
      have hw : ind (decide (l[n].par = id ∧ ∃ c ∈ l, nameOf c = nameOf l[n])) = ind (decide (l[n].par = id ∧ chain l l[n].par ≠ [])) := by
        congr 1
        apply decide_eq_decide.2
        exact ⟨fun h => ⟨h.1, hpc⟩, fun h => ⟨h.1, hex⟩⟩
      omega
/-- Whose votes are for a block itself. -/
def ownOf (m : List Vote) (id : ID) : List Int := (m.filter fun v => decide (v.head = id)).map Vote.frm
theorem ownOf_snoc {vs : List Vote} {id : ID} {k : Nat} (hlt : k < vs.length) : ownOf (vs.take (k + 1)) id = ownOf (vs.take k) id ++ (if vs[k].head = id then [vs[k].frm] else []) := by
  unfold ownOf
  rw [← List.take_append_getElem hlt, List.filter_append, List.map_append]
  by_cases h : vs[k].head = id <;> simp [h]
theorem ownOf_len (vs : List Vote) (id : ID) : (ownOf vs id).length ≤ vs.length := by
  unfold ownOf
  rw [List.length_map]
  exact List.length_filter_le _ _
theorem mem_whoOn {l : List Blk} {m : List Vote} {id : ID} {i : Int} : i ∈ whoOn l m id ↔ ∃ v ∈ m, id ∈ chain l v.head ∧ v.frm = i := by
  unfold whoOn
  simp only [List.mem_map, List.mem_filter, decide_eq_true_eq]
  exact ⟨fun ⟨v, ⟨h1, h2⟩, h3⟩ => ⟨v, h1, h2, h3⟩, fun ⟨v, h1, h2, h3⟩ => ⟨v, ⟨h1, h2⟩, h3⟩⟩
theorem mem_ownOf {m : List Vote} {id : ID} {i : Int} : i ∈ ownOf m id ↔ ∃ v ∈ m, v.head = id ∧ v.frm = i := by
  unfold ownOf
  simp only [List.mem_map, List.mem_filter, decide_eq_true_eq]
  exact ⟨fun ⟨v, ⟨h1, h2⟩, h3⟩ => ⟨v, h1, h2, h3⟩, fun ⟨v, h1, h2, h3⟩ => ⟨v, ⟨h1, h2⟩, h3⟩⟩
theorem who_parts {l : List Blk} (ht : Tree l) {m : List Vote} (hm : RisesV m) {id : ID} (hid : chain l id ≠ []) (i : Int) :
    ind (decide (i ∈ whoOn l m id)) = ind (decide (i ∈ ownOf m id)) + sumL (fun k => ind (decide (i ∈ whoOn l m k))) (kidsOf l id) := by
  by_cases hex : ∃ v ∈ m, v.frm = i
  · obtain ⟨v, hv, rfl⟩ := hex
    have hw : ∀ y, v.frm ∈ whoOn l m y ↔ y ∈ chain l v.head := fun y => by
      rw [mem_whoOn]
      exact ⟨fun ⟨u, hu, h1, h2⟩ => by rw [← risesV_inj hm hu hv h2]; exact h1, fun h => ⟨v, hv, h, rfl⟩⟩
    have ho : v.frm ∈ ownOf m id ↔ v.head = id := by
      rw [mem_ownOf]
      exact ⟨fun ⟨u, hu, h1, h2⟩ => by rw [← risesV_inj hm hu hv h2]; exact h1, fun h => ⟨v, hv, h, rfl⟩⟩
    have := on_parts ht id v.head
    simp only [hw, ho]
    rw [this]
    congr 1
    congr 1
    apply decide_eq_decide.2
    exact ⟨fun h => h.1, fun h => ⟨h, by rw [h]; exact hid⟩⟩
  · have hw : ∀ y, i ∉ whoOn l m y := fun y h => by
      obtain ⟨v, hv, _, e⟩ := mem_whoOn.1 h
      exact hex ⟨v, hv, e⟩
    have ho : i ∉ ownOf m id := fun h => by
      obtain ⟨v, hv, _, e⟩ := mem_ownOf.1 h
      exact hex ⟨v, hv, e⟩
    rw [sumL_zero _ (fun k _ => by simp [ind, hw])]
    simp [ind, hw, ho]
theorem sumL_mul {α : Type} (f : α → Int) (x : Int) : ∀ ks : List α, sumL (fun k => f k * x) ks = sumL f ks * x
  | [] => by simp [sumL]
  | k :: ks => by simp only [sumL]; rw [sumL_mul f x ks, Int.add_mul]
theorem ind_mul (b : Bool) (x : Int) : (if b = true then x else 0) = ind b * x := by cases b <;> simp [ind]
theorem wsum_parts (W : List Int) {p q : Nat → Bool} {α : Type} {r : α → Nat → Bool} {ks : List α} (h : ∀ i, ind (p i) = ind (q i) + sumL (fun y => ind (r y i)) ks) (k : Nat) :
    wsumTo W p k = wsumTo W q k + sumL (fun y => wsumTo W (r y) k) ks := by
  induction k with
  | zero => simp only [wsumTo]; rw [sumL_zero _ (fun _ _ => rfl)]; rfl
  | succ k ih =>
    have e := sumL_add (f := fun y => wsumTo W (r y) (k + 1)) (g := fun y => wsumTo W (r y) k) (h := fun y => ind (r y k) * W[k]?.getD 0) ks (fun y _ => by simp only [wsumTo]; rw [ind_mul])
    rw [e, sumL_mul]
    simp only [wsumTo]
    rw [ih, ind_mul, ind_mul, h k, Int.add_mul]
    omega
theorem on_splits (c : Cfg) {l : List Blk} (ht : Tree l) {m : List Vote} (hm : RisesV m) {id : ID} (hid : chain l id ≠ []) :
    onC c l m id = sumL (onC c l m) (kidsOf l id) + weightC c (ownOf m id) := by
  unfold onC weightC
  by_cases hc : MayC c
  · simp only [if_pos hc]
    rw [wsum_parts c.W (q := fun i => decide ((i : Int) ∈ ownOf m id)) (r := fun y i => decide ((i : Int) ∈ whoOn l m y)) (ks := kidsOf l id) (fun i => who_parts ht hm hid i)]
    omega
  · simp only [if_neg hc]
    rw [sumL_zero _ (fun _ _ => rfl)]
    rfl
theorem on_unknown (c : Cfg) {l : List Blk} (m : List Vote) {id : ID} (hid : chain l id = []) : onC c l m id = 0 := by
  have : whoOn l m id = [] := by
    unfold whoOn
    rw [List.map_eq_nil_iff, List.filter_eq_nil_iff]
    intro v _
    simp only [decide_eq_true_eq]
    intro h
    exact chain_mem h hid
  unfold onC
  rw [this, weightC_nil]
end Go.Proofs.YtaohkcdfjjiggaaGreat
/-! The pure law of arrays of blocks: settled ones, their uniqueness, and how weight that is put on one is carried up. -/
namespace Go.Proofs.YtaohkcdfjjiggaaGreat
instance : Inhabited ID := ⟨⟨0, 0⟩⟩
structure Item where
  id : ID
  par : Int
  own : Int
  w : Int
  best : Int
  head : Int
  deriving DecidableEq, Inhabited
def encItem (x : Item) : List Value := [.int .u64 x.id.hi, .int .u64 x.id.lo, .int .i64 x.par, .int .i64 x.own, .int .i64 x.w, .int .i64 x.best, .int .i64 x.head]
def idLess (a b : ID) : Bool := decide (a.hi < b.hi) || decide (a.hi = b.hi) && decide (a.lo < b.lo)
def itm (a : List Item) (i : Nat) : Item := a[i]?.getD default
theorem itm_lt {a : List Item} {i : Nat} (h : i < a.length) : itm a i = a[i] := by simp [itm, h]
theorem itm_set (a : List Item) (i k : Nat) (x : Item) (h : i < a.length) : itm (a.set i x) k = if k = i then x else itm a k := by
  unfold itm
  rw [List.getElem?_set]
  by_cases e : i = k
  · subst e; simp [h]
  · rw [if_neg e, if_neg (fun h => e h.symm)]
theorem itm_app (a : List Item) (x : Item) (k : Nat) (h : k < a.length) : itm (a ++ [x]) k = itm a k := by unfold itm; rw [List.getElem?_append_left h]
theorem itm_new (a : List Item) (x : Item) : itm (a ++ [x]) a.length = x := by simp [itm]
theorem itm_ext {a b : List Item} (hl : a.length = b.length) (h : ∀ i, i < a.length → itm a i = itm b i) : a = b := by
  apply List.ext_getElem hl
  intro i h1 h2
  have := h i h1
  rwa [itm_lt h1, itm_lt h2] at this
/-! Sums. -/
def sumR (f : Nat → Int) : Nat → Int
  | 0 => 0
  | n + 1 => sumR f n + f n
theorem sumR_congr {f g : Nat → Int} {n : Nat} (h : ∀ k, k < n → f k = g k) : sumR f n = sumR g n := by
  induction n with
  | zero => rfl
  | succ n ih => rw [sumR, sumR, ih (fun k hk => h k (by omega)), h n (by omega)]
theorem sumR_add (f g : Nat → Int) (n : Nat) : sumR (fun k => f k + g k) n = sumR f n + sumR g n := by
  induction n with
  | zero => rfl
  | succ n ih => simp only [sumR, ih]; omega
theorem sumR_sub (f g : Nat → Int) (n : Nat) : sumR (fun k => f k - g k) n = sumR f n - sumR g n := by
  induction n with
  | zero => rfl
  | succ n ih => simp only [sumR, ih]; omega
theorem sumR_zero {f : Nat → Int} {n : Nat} (h : ∀ k, k < n → f k = 0) : sumR f n = 0 := by
  induction n with
  | zero => rfl
  | succ n ih => rw [sumR, ih (fun k hk => h k (by omega)), h n (by omega)]; rfl
theorem sumR_one {f : Nat → Int} {n i : Nat} (hi : i < n) (h : ∀ k, k < n → k ≠ i → f k = 0) : sumR f n = f i := by
  induction n with
  | zero => omega
  | succ n ih =>
    rw [sumR]
    by_cases e : i = n
    · subst e; rw [sumR_zero (fun k hk => h k (by omega) (by omega))]; omega
    · rw [ih (by omega) (fun k hk hn => h k (by omega) hn), h n (by omega) (fun e2 => e e2.symm)]; omega
theorem sumR_nonneg {f : Nat → Int} {n : Nat} (h : ∀ k, k < n → 0 ≤ f k) : 0 ≤ sumR f n := by
  induction n with
  | zero => exact Int.le_refl _
  | succ n ih => rw [sumR]; have := ih (fun k hk => h k (by omega)); have := h n (by omega); omega
theorem sumR_mem {f : Nat → Int} {n i : Nat} (h : ∀ k, k < n → 0 ≤ f k) (hi : i < n) : f i ≤ sumR f n := by
  induction n with
  | zero => omega
  | succ n ih =>
    rw [sumR]
    by_cases e : i = n
    · subst e; have := sumR_nonneg (f := f) (n := i) (fun k hk => h k (by omega)); omega
    · have := ih (fun k hk => h k (by omega)) (by omega); have := h n (by omega); omega
theorem sumR_bd {f : Nat → Int} {B : Int} {n : Nat} (h : ∀ k, k < n → f k ≤ B) (_ : 0 ≤ B) : sumR f n ≤ n * B := by
  induction n with
  | zero => simp [sumR]
  | succ n ih => rw [sumR]; have := ih (fun k hk => h k (by omega)); have := h n (by omega); rw [Int.natCast_succ, Int.add_mul]; omega
/-! What a settled array is. -/
def better (x y : Item) : Bool := decide (y.w < x.w) || decide (x.w = y.w) && idLess y.id x.id
def bestTo (a : List Item) (at' : Int) : Nat → Int
  | 0 => -1
  | k + 1 => if (itm a k).par = at' ∧ (bestTo a at' k = -1 ∨ better (itm a k) (itm a (bestTo a at' k).toNat) = true) then (k : Int) else bestTo a at' k
def best (a : List Item) (at' : Int) : Int := bestTo a at' a.length
def wsum (a : List Item) (at' : Int) (n : Nat) : Int := sumR (fun k => if (itm a k).par = at' then (itm a k).w else 0) n
def WEq (a : List Item) (i : Nat) : Prop := (itm a i).w = (itm a i).own + wsum a i a.length
def headOf (a : List Item) (i : Nat) : Int := if best a i = -1 then (i : Int) else (itm a (best a i).toNat).head
def BEq (a : List Item) (i : Nat) : Prop := (itm a i).best = best a i ∧ (itm a i).head = headOf a i
def ParOk (a : List Item) : Prop := ∀ i, i < a.length → -1 ≤ (itm a i).par ∧ (itm a i).par < i
def Settled (a : List Item) : Prop := ∀ i, i < a.length → WEq a i ∧ BEq a i
def SameSk (a b : List Item) : Prop := a.length = b.length ∧ ∀ i, i < a.length → (itm a i).id = (itm b i).id ∧ (itm a i).par = (itm b i).par ∧ (itm a i).own = (itm b i).own
theorem bestTo_spec (a : List Item) (p : Int) (n : Nat) : bestTo a p n = -1 ∨ ∃ j : Nat, j < n ∧ (itm a j).par = p ∧ bestTo a p n = j := by
  induction n with
  | zero => exact .inl rfl
  | succ n ih =>
    rw [bestTo]
    split
    · rename_i h
      exact .inr ⟨n, by omega, h.1, rfl⟩
    · rcases ih with h | ⟨j, h1, h2, h3⟩
      · exact .inl h
      · exact .inr ⟨j, by omega, h2, h3⟩
theorem bestTo_none {a : List Item} {p : Int} {n : Nat} : bestTo a p n = -1 ↔ ∀ k, k < n → (itm a k).par ≠ p := by
  induction n with
  | zero => simp [bestTo]
  | succ n ih =>
    rw [bestTo]
    constructor
    · intro h
      split at h
      · omega
      · rename_i hn
        intro k hk e
        by_cases e2 : k = n
        · subst e2; exact hn ⟨e, .inl h⟩
        · exact ih.1 h k (by omega) e
    · intro h
      rw [if_neg (fun hc => h n (by omega) hc.1)]
      exact ih.2 (fun k hk => h k (by omega))
/-- The best one is told by what stands on p alone. -/
theorem bestTo_congr {a b : List Item} {p : Int} {n : Nat} (hp : ∀ k, k < n → ((itm a k).par = p ↔ (itm b k).par = p)) (hv : ∀ k, k < n → (itm a k).par = p → (itm a k).w = (itm b k).w ∧ (itm a k).id = (itm b k).id) : bestTo a p n = bestTo b p n := by
  induction n with
  | zero => rfl
  | succ n ih =>
    have ih' := ih (fun k hk => hp k (by omega)) (fun k hk => hv k (by omega))
    rw [bestTo, bestTo, ih']
    by_cases h1 : (itm a n).par = p
    · have h2 := (hp n (by omega)).1 h1
      obtain ⟨e1, e2⟩ := hv n (by omega) h1
      have hb : bestTo b p n = -1 ∨ better (itm a n) (itm a (bestTo b p n).toNat) = better (itm b n) (itm b (bestTo b p n).toNat) := by
        rw [← ih']
        rcases bestTo_spec a p n with h | ⟨j, j1, j2, j3⟩
        · exact .inl h
        · right
          obtain ⟨f1, f2⟩ := hv j (by omega) j2
          rw [j3]
          simp only [Int.toNat_natCast, better, e1, e2, f1, f2]
      rcases hb with hb | hb
      · simp [h1, h2, hb]
      · simp [h1, h2, hb]
    · have h2 : ¬ (itm b n).par = p := fun h => h1 ((hp n (by omega)).2 h)
      rw [if_neg (fun h => h1 h.1), if_neg (fun h => h2 h.1)]
theorem wsum_congr {a b : List Item} {p : Int} {n : Nat} (hp : ∀ k, k < n → ((itm a k).par = p ↔ (itm b k).par = p)) (hv : ∀ k, k < n → (itm a k).par = p → (itm a k).w = (itm b k).w) : wsum a p n = wsum b p n := by
  unfold wsum
  apply sumR_congr
  intro k hk
  show (if (itm a k).par = p then (itm a k).w else 0) = if (itm b k).par = p then (itm b k).w else 0
  by_cases h : (itm a k).par = p
  · rw [if_pos h, if_pos ((hp k hk).1 h), hv k hk h]
  · rw [if_neg h, if_neg (fun h2 => h ((hp k hk).2 h2))]
theorem headOf_eq {a b : List Item} {i : Nat} (hb : best a i = best b i) (_ : a.length = b.length) (hh : ∀ k, k < a.length → (itm a k).par = i → (itm a k).head = (itm b k).head) : headOf a i = headOf b i := by
  unfold headOf
  rw [← hb]
  rcases bestTo_spec a i a.length with h | ⟨j, j1, j2, j3⟩
  · have h' : best a i = -1 := h
    rw [if_pos h', if_pos h']
  · have h' : best a i = j := j3
    rw [h', if_neg (by omega), if_neg (by omega)]
    simp only [Int.toNat_natCast]
    exact hh j j1 j2
/-- Two settled arrays of one skeleton are one. -/
theorem settled_uniq {a b : List Item} (hp : ParOk a) (hs : SameSk a b) (ha : Settled a) (hb : Settled b) : a = b := by
  obtain ⟨hl, hs⟩ := hs
  refine itm_ext hl ?_
  have key : ∀ m i, i < a.length → a.length ≤ i + m → itm a i = itm b i := by
    intro m
    induction m with
    | zero => intro i h1 h2; omega
    | succ m ih =>
      intro i h1 h2
      obtain ⟨e1, e2, e3⟩ := hs i h1
      obtain ⟨w1, b1, c1⟩ := ha i h1
      obtain ⟨w2, b2, c2⟩ := hb i (by omega)
      have hch : ∀ k, k < a.length → (itm a k).par = i → itm a k = itm b k := fun k hk hpk => ih k hk (by have := (hp k hk).2; omega)
      have hpi : ∀ k, k < a.length → ((itm a k).par = i ↔ (itm b k).par = i) := fun k hk => by rw [(hs k hk).2.1]
      have hw : wsum a i a.length = wsum b i b.length := by rw [← hl]; exact wsum_congr hpi (fun k hk h => by rw [hch k hk h])
      have hbe : best a i = best b i := by unfold best; rw [← hl]; exact bestTo_congr hpi (fun k hk h => by rw [hch k hk h]; exact ⟨rfl, rfl⟩)
      have hhe : headOf a i = headOf b i := headOf_eq hbe hl (fun k hk h => by rw [hch k hk h])
      unfold WEq at w1 w2
      rw [e3, hw, ← w2] at w1
      rw [hbe, ← b2] at b1
      rw [hhe, ← c2] at c1
      cases hx : itm a i
      cases hy : itm b i
      simp_all
  intro i hi
  exact key a.length i hi (by omega)
/-! What stands ahead of i weighs, together, what all from i on have of their own. -/
theorem cut_sum {a : List Item} (hp : ParOk a) (hw : ∀ i, i < a.length → WEq a i) : ∀ m i, a.length = i + m → sumR (fun k => if i ≤ k ∧ (itm a k).par < i then (itm a k).w else 0) a.length = sumR (fun k => if i ≤ k then (itm a k).own else 0) a.length := by
  intro m
  induction m with
  | zero =>
    intro i h
    rw [sumR_zero (fun k hk => if_neg (by omega)), sumR_zero (fun k hk => if_neg (by omega))]
  | succ m ih =>
    intro i h
    have hi : i < a.length := by omega
    have h1 := ih (i + 1) (by omega)
    have e1 : sumR (fun k => if i ≤ k ∧ (itm a k).par < i then (itm a k).w else 0) a.length = sumR (fun k => if i + 1 ≤ k ∧ (itm a k).par < (i + 1 : Nat) then (itm a k).w else 0) a.length - wsum a i a.length + (itm a i).w := by
      have e2 : (itm a i).w = sumR (fun k => if k = i then (itm a k).w else 0) a.length := by
        rw [sumR_one hi (fun k _ hn => if_neg hn), if_pos rfl]
      rw [e2]
      unfold wsum
      rw [← sumR_sub, ← sumR_add]
      apply sumR_congr
      intro k hk
      have := (hp k hk).2
      by_cases c1 : k = i
      · subst c1
        rw [if_pos ⟨by omega, this⟩, if_neg (by omega), if_neg (by omega), if_pos rfl]; omega
      · by_cases c2 : k < i
        · rw [if_neg (by omega), if_neg (by omega), if_neg (by omega), if_neg c1]; omega
        · by_cases c3 : (itm a k).par = i
          · rw [if_neg (by omega), if_pos (by omega), if_pos c3, if_neg c1]; omega
          · by_cases c4 : (itm a k).par < i
            · rw [if_pos (by omega), if_pos (by omega), if_neg c3, if_neg c1]; omega
            · rw [if_neg (by omega), if_neg (by omega), if_neg c3, if_neg c1]; omega
    have e3 : sumR (fun k => if i ≤ k then (itm a k).own else 0) a.length = sumR (fun k => if i + 1 ≤ k then (itm a k).own else 0) a.length + (itm a i).own := by
      have e2 : (itm a i).own = sumR (fun k => if k = i then (itm a k).own else 0) a.length := by
        rw [sumR_one hi (fun k _ hn => if_neg hn), if_pos rfl]
      rw [e2, ← sumR_add]
      apply sumR_congr
      intro k hk
      by_cases c1 : k = i
      · subst c1; rw [if_pos (by omega), if_neg (by omega), if_pos rfl]; omega
      · by_cases c2 : i + 1 ≤ k
        · rw [if_pos (by omega), if_pos c2, if_neg c1]; omega
        · rw [if_neg (by omega), if_neg c2, if_neg c1]; omega
    have hwi := hw i hi
    unfold WEq at hwi
    rw [e1, h1, e3]
    omega
theorem wnonneg {a : List Item} (hp : ParOk a) (hw : ∀ i, i < a.length → WEq a i) (ho : ∀ i, i < a.length → 0 ≤ (itm a i).own) : ∀ i, i < a.length → 0 ≤ (itm a i).w := by
  have key : ∀ m i, i < a.length → a.length ≤ i + m → 0 ≤ (itm a i).w := by
    intro m
    induction m with
    | zero => intro i h1 h2; omega
    | succ m ih =>
      intro i h1 h2
      rw [hw i h1]
      have := ho i h1
      have : 0 ≤ wsum a i a.length := sumR_nonneg (fun k hk => by
        show 0 ≤ if (itm a k).par = (i : Int) then (itm a k).w else 0
        split
        · rename_i e; exact ih k hk (by have := (hp k hk).2; omega)
        · exact Int.le_refl _)
      omega
  intro i hi
  exact key a.length i hi (by omega)
theorem w_bound {a : List Item} {B : Int} (hp : ParOk a) (hw : ∀ i, i < a.length → WEq a i) (ho : ∀ i, i < a.length → 0 ≤ (itm a i).own ∧ (itm a i).own ≤ B) {i : Nat} (hi : i < a.length) : 0 ≤ (itm a i).w ∧ (itm a i).w ≤ a.length * B := by
  have hn := wnonneg hp hw (fun i hi => (ho i hi).1)
  refine ⟨hn i hi, ?_⟩
  have hB : 0 ≤ B := by have := ho i hi; omega
  have h1 := cut_sum hp hw (a.length - i) i (by omega)
  have h2 := sumR_mem (f := fun k => if i ≤ k ∧ (itm a k).par < i then (itm a k).w else 0) (n := a.length) (i := i) (fun k hk => by
    show 0 ≤ if i ≤ k ∧ (itm a k).par < i then (itm a k).w else 0
    split
    · exact hn k hk
    · exact Int.le_refl _) hi
  have h3 : sumR (fun k => if i ≤ k then (itm a k).own else 0) a.length ≤ a.length * B := sumR_bd (fun k hk => by
    show (if i ≤ k then (itm a k).own else 0) ≤ B
    split
    · exact (ho k hk).2
    · exact hB) hB
  have h4 : (if i ≤ i ∧ (itm a i).par < i then (itm a i).w else 0) = (itm a i).w := if_pos ⟨Nat.le_refl _, (hp i hi).2⟩
  simp only [h4] at h2
  omega
theorem root_sum {a : List Item} (hp : ParOk a) (hw : ∀ i, i < a.length → WEq a i) : wsum a (-1) a.length = sumR (fun k => (itm a k).own) a.length := by
  have h := cut_sum hp hw a.length 0 (by omega)
  rw [show wsum a (-1) a.length = sumR (fun k => if 0 ≤ k ∧ (itm a k).par < (0 : Nat) then (itm a k).w else 0) a.length from sumR_congr (fun k hk => by
    have := (hp k hk).1
    show (if (itm a k).par = -1 then (itm a k).w else 0) = _
    by_cases c : (itm a k).par = -1
    · rw [if_pos c, if_pos (by omega)]
    · rw [if_neg c, if_neg (by omega)]), h]
  exact sumR_congr (fun k hk => if_pos (Nat.zero_le _))
end Go.Proofs.YtaohkcdfjjiggaaGreat
/-! How much a boost is: the plain law. -/
namespace Go.Proofs.YtaohkcdfjjiggaaGreat
def boostC (c : Cfg) (pct : Int) : Int := if MayC c ∧ 0 ≤ pct ∧ pct ≤ 100 then (totalC c / c.epoch) * pct / 100 else 0
theorem totalC_bd (c : Cfg) : 0 ≤ totalC c ∧ totalC c ≤ 13194139533312 := by
  unfold totalC
  by_cases hm : MayC c
  · rw [if_pos hm]
    have h1 := wsumTo_bd hm.W (fun _ => true) c.W.length
    have h2 := hm.len
    omega
  · rw [if_neg hm]; omega
theorem boost_lemma {t e p : Int} (ht : 0 ≤ t) (he : 1 ≤ e) (hp : 0 ≤ p) (hp2 : p ≤ 100) : 0 ≤ t / e ∧ t / e ≤ t ∧ 0 ≤ t / e * p ∧ t / e * p ≤ t * 100 ∧ 0 ≤ t / e * p / 100 ∧ t / e * p / 100 ≤ t := by
  have h1 : 0 ≤ t / e := Int.ediv_nonneg ht (by omega)
  have h2 : t / e ≤ t := Int.ediv_le_self _ ht
  have h3 : 0 ≤ t / e * p := Int.mul_nonneg h1 hp
  have h4 : t / e * p ≤ t / e * 100 := Int.mul_le_mul_of_nonneg_left hp2 h1
  have h5 : t / e * 100 ≤ t * 100 := Int.mul_le_mul_of_nonneg_right h2 (by omega)
  refine ⟨h1, h2, h3, by omega, by omega, by omega⟩
theorem boostC_bd (c : Cfg) (pct : Int) : 0 ≤ boostC c pct ∧ boostC c pct ≤ totalC c ∧ boostC c pct ≤ 13194139533312 := by
  have ht := totalC_bd c
  unfold boostC
  split
  · rename_i h
    have := boost_lemma ht.1 h.1.2.1 h.2.1 h.2.2
    omega
  · omega
theorem boostC_mono (c : Cfg) {p q : Int} (hp : 0 ≤ p) (h : p ≤ q) (hq : q ≤ 100) : boostC c p ≤ boostC c q := by
  unfold boostC
  by_cases hm : MayC c
  · rw [if_pos ⟨hm, hp, by omega⟩, if_pos ⟨hm, by omega, hq⟩]
    have h1 := (boost_lemma (totalC_bd c).1 hm.2.1 hp (by omega)).1
    have h2 : totalC c / c.epoch * p ≤ totalC c / c.epoch * q := Int.mul_le_mul_of_nonneg_left h h1
    omega
  · rw [if_neg (fun h => hm h.1), if_neg (fun h => hm h.1)]
    exact Int.le_refl _
theorem boostC_zero (c : Cfg) : boostC c 0 = 0 := by
  unfold boostC
  split <;> simp
end Go.Proofs.YtaohkcdfjjiggaaGreat
/-! The head that is come to by any weights of blocks: the plain law. -/
namespace Go.Proofs.YtaohkcdfjjiggaaGreat
/-- k is better than b. -/
def beats (wt : ID → Int) (b k : ID) : Bool := decide (wt b < wt k) || decide (wt k = wt b) && idLess b k
def pick (wt : ID → Int) (b k : ID) : ID := if beats wt b k then k else b
noncomputable def headGo (l : List Blk) (wt : ID → Int) : Nat → ID → ID
  | 0, id => id
  | f + 1, id => match kids l id with
    | [] => id
    | k :: ks => headGo l wt f (ks.foldl (pick wt) k)
noncomputable def headBy (l : List Blk) (wt : ID → Int) : ID := headGo l wt l.length zid
theorem headGo_nil {l : List Blk} {wt : ID → Int} {id : ID} (h : kids l id = []) (n : Nat) : headGo l wt n id = id := by
  cases n with
  | zero => rfl
  | succ n => simp [headGo, h]
theorem headGo_cons {l : List Blk} {wt : ID → Int} {id k : ID} {ks : List ID} (h : kids l id = k :: ks) (n : Nat) : headGo l wt (n + 1) id = headGo l wt n (ks.foldl (pick wt) k) := by
  simp [headGo, h]
theorem kids_mem {l : List Blk} {id k : ID} (h : k ∈ kids l id) : Tree l ∧ ∃ (n : Nat) (hn : n < l.length), nameOf l[n] = k ∧ l[n].par = id := by
  unfold kids at h
  split at h
  · rename_i ht
    unfold kidsOf at h
    obtain ⟨b, hb, rfl⟩ := List.mem_map.1 h
    obtain ⟨hb1, hb2⟩ := List.mem_filter.1 hb
    obtain ⟨n, hn, rfl⟩ := List.getElem_of_mem hb1
    exact ⟨ht, n, hn, rfl, by simpa using hb2⟩
  · simp at h
theorem kids_of {l : List Blk} (ht : Tree l) {n : Nat} (hn : n < l.length) : nameOf l[n] ∈ kids l l[n].par := by
  unfold kids
  rw [if_pos ht]
  unfold kidsOf
  exact List.mem_map.2 ⟨l[n], List.mem_filter.2 ⟨List.getElem_mem hn, by simp⟩, rfl⟩
theorem kids_chain {l : List Blk} {id k : ID} (h : k ∈ kids l id) : chain l k = k :: chain l id ∧ k ∉ chain l id ∧ chain l id ≠ [] := by
  obtain ⟨ht, n, hn, rfl, rfl⟩ := kids_mem h
  exact ⟨chain_cons ht hn, name_notin ht hn, par_chain ht hn⟩
theorem chain_bound {l : List Blk} (x : ID) : (chain l x).length ≤ l.length + 1 := by
  by_cases ht : Tree l
  · have hk : ∀ n (hn : n < l.length), (chain l (nameOf l[n])).length ≤ n + 2 := by
      intro n
      induction n using Nat.strongRecOn with
      | ind n ih =>
        intro hn
        rw [chain_cons ht hn, List.length_cons]
        rcases (ht n hn).2.2 with h | ⟨_, c, hc, h, _⟩
        · rw [h.1, chain_zid ht]; simp
        · obtain ⟨j, hj, rfl⟩ := List.getElem_of_mem hc
          simp only [List.length_take] at hj
          rw [← h]
          simp only [List.getElem_take]
          have := ih j (by omega) (by omega)
          omega
    rcases known_or (l := l) x with rfl | ⟨n, hn, rfl⟩ | ⟨h, _⟩
    · rw [chain_zid ht]; simp
    · have := hk n hn; omega
    · rw [h]; simp
  · rw [chain_notree ht]; simp
theorem kids_room {l : List Blk} {id k : ID} (h : k ∈ kids l id) : (chain l id).length ≤ l.length := by
  have h1 := chain_bound (l := l) k
  rw [(kids_chain h).1] at h1
  simp only [List.length_cons] at h1
  omega
theorem pick_mem (wt : ID → Int) : ∀ (ks : List ID) (k : ID), ks.foldl (pick wt) k ∈ k :: ks
  | [], k => by simp
  | x :: ks, k => by
    have h := pick_mem wt ks (pick wt k x)
    simp only [List.foldl_cons]
    rcases List.mem_cons.1 h with h | h
    · rw [h]
      unfold pick
      split <;> simp
    · simp [h]
theorem pick_kids {l : List Blk} {wt : ID → Int} {id k : ID} {ks : List ID} (h : kids l id = k :: ks) : ks.foldl (pick wt) k ∈ kids l id := by
  rw [h]; exact pick_mem wt ks k
theorem headGo_fuel {l : List Blk} {wt : ID → Int} : ∀ (n : Nat) (id : ID), l.length + 1 ≤ n + (chain l id).length → headGo l wt (n + 1) id = headGo l wt n id
  | 0, id, h => by
    cases hk : kids l id with
    | nil => rw [headGo_nil hk, headGo_nil hk]
    | cons k ks =>
      have := kids_room (l := l) (id := id) (k := k) (by rw [hk]; simp)
      omega
  | n + 1, id, h => by
    cases hk : kids l id with
    | nil => rw [headGo_nil hk, headGo_nil hk]
    | cons k ks =>
      rw [headGo_cons hk, headGo_cons hk]
      apply headGo_fuel
      rw [(kids_chain (pick_kids hk)).1, List.length_cons]
      omega
theorem headGo_notree {l : List Blk} (ht : ¬ Tree l) (wt : ID → Int) (n : Nat) (id : ID) : headGo l wt n id = id := headGo_nil (by simp [kids, ht]) n
theorem headGo_more {l : List Blk} {wt : ID → Int} : headGo l wt (l.length + 1) zid = headBy l wt := by
  by_cases ht : Tree l
  · exact headGo_fuel _ _ (by rw [chain_zid ht]; simp)
  · unfold headBy
    rw [headGo_notree ht, headGo_notree ht]
/-- Where one is when there is nothing above. -/
theorem headGo_end {l : List Blk} {wt : ID → Int} {n : Nat} {id : ID} (h : kids l id = []) (hh : headGo l wt n id = headBy l wt) : headBy l wt = id := by
  rw [← hh, headGo_nil h]
theorem headGo_desc {l : List Blk} {wt : ID → Int} : ∀ (n : Nat) (id : ID), chain l id ≠ [] → id ∈ chain l (headGo l wt n id)
  | 0, id, h => chain_self h
  | n + 1, id, h => by
    cases hk : kids l id with
    | nil => rw [headGo_nil hk]; exact chain_self h
    | cons k ks =>
      rw [headGo_cons hk]
      have hp := kids_chain (pick_kids (wt := wt) hk)
      have h1 : ks.foldl (pick wt) k ∈ chain l (headGo l wt n (ks.foldl (pick wt) k)) := headGo_desc n _ (by rw [hp.1]; simp)
      refine chain_trans h1 ?_
      rw [hp.1]
      exact List.mem_cons_of_mem _ (chain_self h)
theorem chain_lin {l : List Blk} {x a b : ID} (ha : a ∈ chain l x) (hb : b ∈ chain l x) : a ∈ chain l b ∨ b ∈ chain l a := by
  by_cases ht : Tree l
  · revert ha hb
    refine chain_ind ht (P := fun _ ch => a ∈ ch → b ∈ ch → a ∈ chain l b ∨ b ∈ chain l a) (fun _ h => by simp at h) ?_ ?_ x
    · intro h1 h2
      simp only [List.mem_singleton] at h1 h2
      subst h1; subst h2
      rw [chain_zid ht]; simp
    · intro n hn ih h1 h2
      rcases List.mem_cons.1 h1 with e1 | h1' <;> rcases List.mem_cons.1 h2 with e2 | h2'
      · left; rw [e1, e2, chain_cons ht hn]; simp
      · right; rw [e1, chain_cons ht hn]; exact List.mem_cons_of_mem _ h2'
      · left; rw [e2, chain_cons ht hn]; exact List.mem_cons_of_mem _ h1'
      · exact ih h1' h2'
  · rw [chain_notree ht] at ha; simp at ha
/-- Two that each are on the other one's chain are one. -/
theorem chain_anti {l : List Blk} {a b : ID} (h1 : a ∈ chain l b) (h2 : b ∈ chain l a) : a = b := by
  by_cases ht : Tree l
  · rcases known_or (l := l) b with rfl | ⟨n, hn, rfl⟩ | ⟨h, _⟩
    · rw [chain_zid ht] at h1; simpa using h1
    · have h3 := h1
      rw [chain_cons ht hn] at h1
      rcases List.mem_cons.1 h1 with e | h1
      · exact e
      · exact absurd (chain_trans h1 h2) (name_notin ht hn)
    · rw [h] at h1; simp at h1
  · rw [chain_notree ht] at h1; simp at h1
/-- Of the children of one just one is on a chain. -/
theorem kids_one {l : List Blk} {p k k' y : ID} (hk : k ∈ kids l p) (hk' : k' ∈ kids l p) (h : k ∈ chain l y) (h' : k' ∈ chain l y) : k = k' := by
  have c1 := kids_chain hk
  have c2 := kids_chain hk'
  rcases chain_lin h h' with e | e
  · rw [c2.1] at e
    rcases List.mem_cons.1 e with e | e
    · exact e
    · exact absurd e c1.2.1
  · rw [c1.1] at e
    rcases List.mem_cons.1 e with e | e
    · exact e.symm
    · exact absurd e c2.2.1
/-- The child of one on the way to what is above it. -/
theorem kid_toward {l : List Blk} {x y : ID} (h : x ∈ chain l y) (hne : x ≠ y) : ∃ k ∈ kids l x, k ∈ chain l y := by
  by_cases ht : Tree l
  · revert h hne
    refine chain_ind ht (P := fun y ch => x ∈ ch → x ≠ y → ∃ k ∈ kids l x, k ∈ ch) (fun _ h => by simp at h) ?_ ?_ y
    · intro h hne
      simp only [List.mem_singleton] at h
      exact absurd h hne
    · intro n hn ih h hne
      rcases List.mem_cons.1 h with e | h
      · exact absurd e hne
      · by_cases e : x = l[n].par
        · exact ⟨nameOf l[n], by rw [e]; exact kids_of ht hn, by simp⟩
        · obtain ⟨k, hk, hm⟩ := ih h e
          exact ⟨k, hk, List.mem_cons_of_mem _ hm⟩
  · rw [chain_notree ht] at h; simp at h
/-! Which child is the best one. -/
def over (wt : ID → Int) (x b : ID) : Prop := wt x < wt b ∨ (wt x = wt b ∧ idLess x b = true)
theorem idl_asymm {x y : ID} (h : idLess x y = true) : idLess y x = false := by
  unfold idLess at *
  simp only [Bool.or_eq_true, Bool.and_eq_true, decide_eq_true_eq, Bool.or_eq_false_iff, Bool.and_eq_false_iff, decide_eq_false_iff_not] at *
  omega
theorem idl_trans {x y z : ID} (h1 : idLess x y = true) (h2 : idLess y z = true) : idLess x z = true := by
  unfold idLess at *
  simp only [Bool.or_eq_true, Bool.and_eq_true, decide_eq_true_eq] at *
  omega
theorem idl_total {x y : ID} (h : x ≠ y) : idLess x y = true ∨ idLess y x = true := by
  unfold idLess
  simp only [Bool.or_eq_true, Bool.and_eq_true, decide_eq_true_eq]
  obtain ⟨a, b⟩ := x
  obtain ⟨c, d⟩ := y
  simp only [ne_eq, ID.mk.injEq, not_and] at h
  simp only
  by_cases e : a = c
  · have := h e; omega
  · omega
theorem beats_iff {wt : ID → Int} {b k : ID} : beats wt b k = true ↔ over wt b k := by
  unfold beats over
  simp only [Bool.or_eq_true, Bool.and_eq_true, decide_eq_true_eq]
  constructor
  · rintro (h | ⟨h, h'⟩)
    · exact .inl h
    · exact .inr ⟨h.symm, h'⟩
  · rintro (h | ⟨h, h'⟩)
    · exact .inl h
    · exact .inr ⟨h.symm, h'⟩
theorem over_trans {wt : ID → Int} {x y z : ID} (h1 : over wt x y) (h2 : over wt y z) : over wt x z := by
  rcases h1 with h1 | ⟨h1, e1⟩ <;> rcases h2 with h2 | ⟨h2, e2⟩
  · exact .inl (by omega)
  · exact .inl (by omega)
  · exact .inl (by omega)
  · exact .inr ⟨by omega, idl_trans e1 e2⟩
theorem over_asymm {wt : ID → Int} {x y : ID} (h1 : over wt x y) (h2 : over wt y x) : False := by
  rcases h1 with h1 | ⟨h1, e1⟩ <;> rcases h2 with h2 | ⟨h2, e2⟩
  · omega
  · omega
  · omega
  · rw [idl_asymm e1] at e2; cases e2
theorem over_total {wt : ID → Int} {x y : ID} (h : x ≠ y) : over wt x y ∨ over wt y x := by
  unfold over
  rcases Int.lt_trichotomy (wt x) (wt y) with h1 | h1 | h1
  · exact .inl (.inl h1)
  · rcases idl_total h with e | e
    · exact .inl (.inr ⟨h1, e⟩)
    · exact .inr (.inr ⟨h1.symm, e⟩)
  · exact .inr (.inl h1)
theorem pick_over (wt : ID → Int) (b k : ID) : (b = pick wt b k ∨ over wt b (pick wt b k)) ∧ (k = pick wt b k ∨ over wt k (pick wt b k)) := by
  unfold pick
  by_cases h : beats wt b k = true
  · rw [if_pos h]; exact ⟨.inr (beats_iff.1 h), .inl rfl⟩
  · rw [if_neg h]
    refine ⟨.inl rfl, ?_⟩
    by_cases e : k = b
    · exact .inl e
    · rcases over_total (wt := wt) e with h' | h'
      · exact .inr h'
      · exact absurd (beats_iff.2 h') h
theorem best_over (wt : ID → Int) : ∀ (ks : List ID) (k : ID), ∀ x ∈ k :: ks, x = ks.foldl (pick wt) k ∨ over wt x (ks.foldl (pick wt) k)
  | [], k, x, hx => by left; simpa using hx
  | y :: ks, k, x, hx => by
    simp only [List.foldl_cons]
    have ih := best_over wt ks (pick wt k y)
    have h0 := ih (pick wt k y) (by simp)
    have hp := pick_over wt k y
    have go : ∀ z, (z = pick wt k y ∨ over wt z (pick wt k y)) → z = ks.foldl (pick wt) (pick wt k y) ∨ over wt z (ks.foldl (pick wt) (pick wt k y)) := by
      intro z hz
      rcases hz with e | h
      · rw [e]; exact h0
      · rcases h0 with e | h'
        · rw [← e]; exact .inr h
        · exact .inr (over_trans h h')
    rcases List.mem_cons.1 hx with rfl | hx
    · exact go _ hp.1
    · rcases List.mem_cons.1 hx with rfl | hx
      · exact go _ hp.2
      · exact ih x (List.mem_cons_of_mem _ hx)
theorem best_uniq {wt : ID → Int} {ks : List ID} {k b : ID} (hb : b ∈ k :: ks) (h : ∀ x ∈ k :: ks, x = b ∨ over wt x b) : ks.foldl (pick wt) k = b := by
  have h1 := h _ (pick_mem wt ks k)
  rcases h1 with e | h1
  · exact e
  · rcases best_over wt ks k b hb with e | h2
    · exact e.symm
    · exact (over_asymm h1 h2).elim
/-- Where the children on the way to y weigh more than all others, y is under the head. -/
theorem head_under {l : List Blk} {wt : ID → Int} {y : ID} (hy : chain l y ≠ []) (hdom : ∀ p k k', k ∈ kids l p → k' ∈ kids l p → k ≠ k' → k ∈ chain l y → wt k' < wt k) : y ∈ chain l (headBy l wt) := by
  have ht : Tree l := Classical.byContradiction fun h => hy (chain_notree h y)
  have go : ∀ (n : Nat) (x : ID), x ∈ chain l y → l.length + 1 ≤ n + (chain l x).length → y ∈ chain l (headGo l wt n x) := by
    intro n
    induction n with
    | zero =>
      intro x hx hl
      by_cases e : x = y
      · subst e; exact headGo_desc _ _ hy
      · obtain ⟨k, hk, _⟩ := kid_toward hx e
        have := kids_room hk
        omega
    | succ n ih =>
      intro x hx hl
      by_cases e : x = y
      · subst e; exact headGo_desc _ _ hy
      · obtain ⟨k, hk, hky⟩ := kid_toward hx e
        cases hks : kids l x with
        | nil => rw [hks] at hk; simp at hk
        | cons k0 ks =>
          rw [headGo_cons hks]
          have hb : ks.foldl (pick wt) k0 = k := by
            refine best_uniq (by rw [← hks]; exact hk) (fun z hz => ?_)
            by_cases e : z = k
            · exact .inl e
            · exact .inr (.inl (hdom x k z hk (by rw [hks]; exact hz) (fun h => e h.symm) hky))
          rw [hb]
          refine ih k hky ?_
          rw [(kids_chain hk).1, List.length_cons]
          omega
  exact go l.length zid (chain_zmem hy) (by rw [chain_zid ht]; simp)
theorem head_known {l : List Blk} (ht : Tree l) (wt : ID → Int) : chain l (headBy l wt) ≠ [] := by
  have := headGo_desc (wt := wt) l.length zid (by rw [chain_zid ht]; simp)
  intro e
  unfold headBy at e
  rw [e] at this
  simp at this
/-- More weight on one, and all that it stands on, leaves it under the head. -/
theorem head_raise {l : List Blk} {wt wt' : ID → Int} {y : ID} {d : Int} (hd : 0 ≤ d) (hw : ∀ x, wt' x = wt x + (if x ∈ chain l y then d else 0)) (h : y ∈ chain l (headBy l wt)) : y ∈ chain l (headBy l wt') := by
  have hy : chain l y ≠ [] := chain_mem h
  have go : ∀ (n : Nat) (x : ID), x ∈ chain l y → y ∈ chain l (headGo l wt n x) → y ∈ chain l (headGo l wt' n x) := by
    intro n
    induction n with
    | zero => intro x _ h; exact h
    | succ n ih =>
      intro x hx h
      by_cases e : x = y
      · subst e; exact headGo_desc _ _ hy
      · cases hks : kids l x with
        | nil => rw [headGo_nil hks] at h ⊢; exact h
        | cons k0 ks =>
          rw [headGo_cons hks] at h ⊢
          have hbk := pick_kids (wt := wt) hks
          have hbc := kids_chain hbk
          have hbh : ks.foldl (pick wt) k0 ∈ chain l (headGo l wt n (ks.foldl (pick wt) k0)) := headGo_desc n _ (by rw [hbc.1]; simp)
          have hby : ks.foldl (pick wt) k0 ∈ chain l y := by
            rcases chain_lin hbh h with e' | e'
            · exact e'
            · rw [hbc.1] at e'
              rcases List.mem_cons.1 e' with e' | e'
              · rw [← e']; exact chain_self hy
              · exact absurd (chain_anti hx e') e
          have hb : ks.foldl (pick wt') k0 = ks.foldl (pick wt) k0 := by
            refine best_uniq (pick_mem wt ks k0) (fun z hz => ?_)
            by_cases e1 : z = ks.foldl (pick wt) k0
            · exact .inl e1
            · right
              have hz' : z ∉ chain l y := fun hzy => e1 (kids_one (by rw [hks]; exact hz) hbk hzy hby)
              have hzw : wt' z = wt z := by rw [hw, if_neg hz']; omega
              have hbw : wt' (ks.foldl (pick wt) k0) = wt (ks.foldl (pick wt) k0) + d := by rw [hw, if_pos hby]
              rcases best_over wt ks k0 z hz with e2 | e2 | ⟨e2, e3⟩
              · exact absurd e2 e1
              · left; omega
              · unfold over
                rw [hzw, hbw]
                by_cases d0 : d = 0
                · right; exact ⟨by omega, e3⟩
                · left; omega
          rw [hb]
          exact ih _ hby h
  exact go l.length zid (chain_zmem hy) h
/-! How much is on two children of one. -/
theorem sumL_two {α : Type} {f : α → Int} (h : ∀ k, 0 ≤ f k) : ∀ (ks : List α) {a b : α}, a ∈ ks → b ∈ ks → a ≠ b → f a + f b ≤ sumL f ks
  | [], a, b, ha, _, _ => by simp at ha
  | k :: ks, a, b, ha, hb, hne => by
    have one : ∀ (ks : List α) {a : α}, a ∈ ks → f a ≤ sumL f ks := by
      intro ks
      induction ks with
      | nil => intro a h; simp at h
      | cons k ks ih =>
        intro a h'
        have hs : 0 ≤ sumL f ks := by
          clear ih h'
          induction ks with
          | nil => simp [sumL]
          | cons k ks ih => have := h k; simp only [sumL]; omega
        simp only [sumL]
        rcases List.mem_cons.1 h' with rfl | h'
        · omega
        · have := ih h'; have := h k; omega
    simp only [sumL]
    rcases List.mem_cons.1 ha with e1 | ha <;> rcases List.mem_cons.1 hb with e2 | hb
    · exact absurd (e1.trans e2.symm) hne
    · have := one ks hb; rw [e1]; omega
    · have := one ks ha; rw [e2]; omega
    · have := sumL_two h ks ha hb hne; have := h k; omega
theorem on_two (c : Cfg) {l : List Blk} {m : List Vote} (hm : RisesV m) {p k k' : ID} (hk : k ∈ kids l p) (hk' : k' ∈ kids l p) (hne : k ≠ k') : onC c l m k + onC c l m k' ≤ onC c l m p := by
  have ht := (kids_mem hk).1
  have h1 := on_splits c ht hm (id := p) (kids_chain hk).2.2
  have h2 : kids l p = kidsOf l p := by simp [kids, ht]
  rw [h2] at hk hk'
  have h3 := sumL_two (f := onC c l m) (fun x => (weightC_bd c _).1) _ hk hk' hne
  have h4 := (weightC_bd c (ownOf m p)).1
  omega
/-- What more is on than a half of all, and what is put on besides, is under the head. -/
theorem head_half (c : Cfg) {l : List Blk} {m : List Vote} (hm : RisesV m) {wt : ID → Int} {b : Int} (hb : 0 ≤ b) (hw : ∀ x, onC c l m x ≤ wt x ∧ wt x ≤ onC c l m x + b) {y : ID} (h : onC c l m zid + b < 2 * onC c l m y) : y ∈ chain l (headBy l wt) := by
  have hz := (weightC_bd c (whoOn l m zid)).1
  have hy : chain l y ≠ [] := fun e => by
    have h2 := on_unknown c (l := l) m e
    have h3 : 0 ≤ onC c l m zid := hz
    omega
  refine head_under hy (fun p k k' hk hk' hne hky => ?_)
  have h1 := on_two c hm hk hk' hne
  have h2 := onC_all c l m p
  have h3 := onC_low c l m hky
  have h4 := hw k
  have h5 := hw k'
  omega
/-! The boost. -/
def lmdW (c : Cfg) (l : List Blk) (m : List Vote) (bo : ID) (pct : Int) (x : ID) : Int := onC c l m x + (if bo ≠ zid ∧ x ∈ chain l bo then boostC c pct else 0)
noncomputable def lmdHead (c : Cfg) (l : List Blk) (m : List Vote) (bo : ID) (pct : Int) : ID := headBy l (lmdW c l m bo pct)
theorem lmdW_bd (c : Cfg) (l : List Blk) (m : List Vote) (bo : ID) (pct : Int) (x : ID) : onC c l m x ≤ lmdW c l m bo pct x ∧ lmdW c l m bo pct x ≤ onC c l m x + boostC c pct := by
  have := boostC_bd c pct
  unfold lmdW
  split <;> omega
theorem lmdW_plain (c : Cfg) (l : List Blk) (m : List Vote) (pct : Int) : lmdW c l m zid pct = onC c l m := by
  funext x
  simp [lmdW]
theorem lmdW_none (c : Cfg) (l : List Blk) (m : List Vote) (bo : ID) {pct : Int} (h : boostC c pct = 0) : lmdW c l m bo pct = onC c l m := by
  funext x
  simp [lmdW, h]
/-- LmdHalf. -/
theorem lmd_half (c : Cfg) {l : List Blk} {m : List Vote} (hm : RisesV m) (bo : ID) (pct : Int) {y : ID} (h : onC c l m zid + boostC c pct < 2 * onC c l m y) : y ∈ chain l (lmdHead c l m bo pct) :=
  head_half c hm (boostC_bd c pct).1 (lmdW_bd c l m bo pct) h
/-- LmdUp. -/
theorem lmd_up (c : Cfg) {l : List Blk} {m : List Vote} {bo : ID} {p q : Int} (hp : 0 ≤ p) (h : p ≤ q) (hq : q ≤ 100) (hu : bo ∈ chain l (lmdHead c l m bo p)) : bo ∈ chain l (lmdHead c l m bo q) := by
  have hb := boostC_mono c hp h hq
  by_cases hz : bo = zid
  · subst hz
    have ht : Tree l := Classical.byContradiction fun h => by rw [chain_notree h] at hu; simp at hu
    exact chain_zmem (head_known ht _)
  · refine head_raise (d := boostC c q - boostC c p) (by omega) (fun x => ?_) hu
    unfold lmdW
    by_cases hx : x ∈ chain l bo
    · simp only [hx, hz, ne_eq, not_false_iff, and_self, if_true]; omega
    · simp only [hx, and_false, if_false]; omega
/-- LmdBounds. -/
theorem lmd_low (c : Cfg) {l : List Blk} {m : List Vote} {bo : ID} {pct : Int} {low x : ID} (h : low ∈ chain l x) : lmdW c l m bo pct x ≤ lmdW c l m bo pct low := by
  have h1 := onC_low c l m h
  have h2 := boostC_bd c pct
  unfold lmdW
  by_cases hx : bo ≠ zid ∧ x ∈ chain l bo
  · rw [if_pos hx, if_pos ⟨hx.1, chain_trans hx.2 h⟩]; omega
  · rw [if_neg hx]; split <;> omega
/-- LmdNone. -/
theorem lmd_none (c : Cfg) {l : List Blk} {bo : ID} {pct : Int} (hb : boostC c pct ≠ 0) (hk : chain l bo ≠ []) : bo ∈ chain l (lmdHead c l [] bo pct) := by
  have hbd := boostC_bd c pct
  by_cases hz : bo = zid
  · subst hz
    have ht : Tree l := Classical.byContradiction fun h => hk (chain_notree h _)
    exact chain_zmem (head_known ht _)
  · refine head_under hk (fun p k k' h1 h2 hne h3 => ?_)
    have h4 : k' ∉ chain l bo := fun h => hne (kids_one h1 h2 h3 h)
    have h0 : ∀ x, onC c l [] x = 0 := fun x => weightC_nil c
    unfold lmdW
    rw [h0, h0]
    simp only [h3, h4, hz, ne_eq, not_false_iff, and_self, and_false, if_true, if_false]
    omega
end Go.Proofs.YtaohkcdfjjiggaaGreat
/-! Comparisons of IDs and of items, walked. -/
namespace Go.Proofs.YtaohkcdfjjiggaaGreat
open Go.RowKit
def cmpU (x y : Int) : Int := if x < y then -1 else if y < x then 1 else 0
set_option maxRecDepth 100000 in
set_option maxHeartbeats 1000000 in
theorem isnanU_any (x : Int) (w : World) : Calls Tryz.prog 169 #[.int .u64 x] w fun e w' => e = .returned (.bool false) ∧ Below w.heap.size w w' := by
  have hB := Below.refl w.heap.size w
  go_enter Tryz.func169, Tryz.ntmps169
  go_wp2_with fail
  go_ret
  exact ⟨ret_bool (by simp), hB⟩
set_option maxRecDepth 100000 in
set_option maxHeartbeats 1000000 in
theorem cmpu_any (x y : Int) (w : World) : Calls Tryz.prog 160 #[.int .u64 x, .int .u64 y] w fun e w' => e = .returned (.int .i64 (cmpU x y)) ∧ Below w.heap.size w w' := by
  have hx := fun V => isnanU_any x V
  have hy := fun V => isnanU_any y V
  go_enter Tryz.func160, Tryz.ntmps160
  go_wp2_with (first
    | (go_at_call 169; with_reducible refine (hx _).mono ?_; clear hx; rintro e w1 ⟨rfl, hb1⟩)
    | (go_at_call 169; with_reducible refine (hy _).mono ?_; clear hy; rintro e w2 ⟨rfl, hb2⟩; have hB := below_call hb1 hb1.size hb2))
  all_goals
    go_ret
    refine ⟨?_, hB⟩
    unfold cmpU
    (first | rw [if_pos (by omega)] | rw [if_neg (by omega), if_pos (by omega)] | rw [if_neg (by omega), if_neg (by omega)])
    try rfl
def cmpID (x y : ID) : Int := if cmpU x.hi y.hi = 0 then cmpU x.lo y.lo else cmpU x.hi y.hi
theorem cmpID_less (x y : ID) : decide (cmpID x y < 0) = idLess x y := by
  unfold cmpID cmpU idLess
  rw [Bool.eq_iff_iff]
  simp only [Bool.or_eq_true, Bool.and_eq_true, decide_eq_true_eq]
  split <;> split <;> (try split) <;> (try split) <;> omega
theorem at0 {w : World} {A : Option Addr} {x y : Int} (h : Rd 1 encU w A [x, y]) : ∃ b o, A = some ⟨b, o, none⟩ ∧ b < w.heap.size ∧ w.cell? ⟨b, o, none⟩ = some (.int .u64 x) ∧ w.cell? ⟨b, o + 1, none⟩ = some (.int .u64 y) := by
  obtain ⟨b, o, hA, hb, d0⟩ := h.atU (i := 0) (by simp)
  obtain ⟨b', o', hA', _, d1⟩ := h.atU (i := 1) (by simp)
  rw [hA] at hA'
  cases hA'
  exact ⟨b, o, hA, hb, d0, d1⟩
set_option maxRecDepth 100000 in
set_option maxHeartbeats 1000000 in
theorem scmp_any (x y : ID) (A B : Option Addr) (c d : Nat) (w : World) (hA : Rd 1 encU w A [x.hi, x.lo]) (hB : Rd 1 encU w B [y.hi, y.lo]) :
    Calls Tryz.prog 138 #[.slice A 2 c, .slice B 2 d] w fun e w' => e = .returned (.int .i64 (cmpID x y)) ∧ Below w.heap.size w w' := by
  have h0 := fun V => cmpu_any x.hi y.hi V
  have h1 := fun V => cmpu_any x.lo y.lo V
  have hq : ∃ q, cmpID x y = q := ⟨_, rfl⟩
  obtain ⟨q, hq⟩ := hq
  rw [hq]
  unfold cmpID at hq
  obtain ⟨m, hm⟩ : ∃ m, cmpU x.hi y.hi = m := ⟨_, rfl⟩
  obtain ⟨n, hn⟩ : ∃ n, cmpU x.lo y.lo = n := ⟨_, rfl⟩
  rw [hm] at h0 hq
  rw [hn] at h1 hq
  clear hm hn
  have hq' := Lib.hid hq
  clear hq
  go_enter Tryz.func138, Tryz.ntmps138
  go_wp2_with fail
  go_loopw [5, 6, 7, 8, 11] (fun x5 x6 x7 x8 i wr => ∃ k : Nat, k ≤ 2 ∧ i = .int .i64 k ∧ (1 ≤ k → m = 0) ∧ (k = 2 → n = 0) ∧ Below w.heap.size w wr) (fun _ _ _ _ i _ => 2 - (intOf i).toNat)
  case atStart => exact ⟨0, by omega, rfl, by omega, by omega, Below.refl _ _⟩
  case round =>
    obtain ⟨k, hk, rfl, hm0, hn0, hW⟩ := hrel
    obtain ⟨b, o, rfl, hb, c0, c1⟩ := at0 (hA.below hW)
    obtain ⟨b', o', rfl, hb', d0, d1⟩ := at0 (hB.below hW)
    rcases (show k = 0 ∨ k = 1 ∨ k = 2 by omega) with rfl | rfl | rfl
    · by_cases hz : m = 0
      · clear hm0 hn0
        go_wp2_with (go_at_call 160; with_reducible refine (h0 _).mono ?_; clear h0; rintro e w1 ⟨rfl, hb1⟩; have hB1 := below_call hW hW.size hb1)
        go_roundw
        case rel => exact ⟨1, by omega, rfl, fun _ => hz, by omega, hB1⟩
        case measure => simp [intOf]
      · clear hm0 hn0
        go_wp2_with (go_at_call 160; with_reducible refine (h0 _).mono ?_; clear h0; rintro e w1 ⟨rfl, hb1⟩; have hB1 := below_call hW hW.size hb1)
        go_ret
        exact ⟨ret_int (by rw [← hq'.out, if_neg hz]), hB1⟩
    · have hz := hm0 (Nat.le_refl _)
      by_cases hy : n = 0
      · clear hm0 hn0
        go_wp2_with (go_at_call 160; with_reducible refine (h1 _).mono ?_; clear h1; rintro e w1 ⟨rfl, hb1⟩; have hB1 := below_call hW hW.size hb1)
        go_roundw
        case rel => exact ⟨2, by omega, rfl, fun _ => hz, fun _ => hy, hB1⟩
        case measure => simp [intOf]
      · clear hm0 hn0
        go_wp2_with (go_at_call 160; with_reducible refine (h1 _).mono ?_; clear h1; rintro e w1 ⟨rfl, hb1⟩; have hB1 := below_call hW hW.size hb1)
        go_ret
        exact ⟨ret_int (by rw [← hq'.out, if_pos hz]), hB1⟩
    · have hz := hm0 (by omega)
      have hy := hn0 rfl
      clear hm0 hn0
      go_wp2_with fail
      go_ret
      exact ⟨ret_int (by rw [← hq'.out, if_pos hz, hy]), hW⟩
set_option maxRecDepth 100000 in
set_option maxHeartbeats 1000000 in
theorem mless_any (x y : ID) (w : World) : Calls Tryz.prog 120 #[idv x, idv y] w fun e w' => e = .returned (.bool (idLess x y)) ∧ Below w.heap.size w w' := by
  have hs := fun V A B c d hA hB => scmp_any x y A B c d V hA hB
  rw [← cmpID_less]
  obtain ⟨q, hq⟩ : ∃ q, cmpID x y = q := ⟨_, rfl⟩
  rw [hq] at hs ⊢
  clear hq
  unfold idv
  have hW : ∃ W, (w.alloc (.cells #[.int .u64 x.hi, .int .u64 x.lo] 35)).alloc (.cells #[.int .u64 y.hi, .int .u64 y.lo] 35) = W := ⟨_, rfl⟩
  obtain ⟨W, hW⟩ := hW
  have hB : Below w.heap.size w W := by subst hW; exact ((Below.refl _ w).alloc (Nat.le_refl _) _).alloc (by simp) _
  have b0 : W.heap[w.heap.size]? = some (.cells #[.int .u64 x.hi, .int .u64 x.lo] 35 (0, 0)) := by subst hW; exact ha_lt (ha_at rfl)
  have b1 : W.heap[w.heap.size + 1]? = some (.cells #[.int .u64 y.hi, .int .u64 y.lo] 35 (0, 0)) := by subst hW; exact ha_at (by simp)
  have hR0 : Rd 1 encU W (some ⟨w.heap.size, 0, none⟩) [x.hi, x.lo] := Rd_blk (by simp) b0 (fun i z hz j u hu => by
    rcases i with _ | _ | i <;> rcases j with _ | j <;> simp [encU] at hz hu <;> subst hz <;> simpa using hu)
  have hR1 : Rd 1 encU W (some ⟨w.heap.size + 1, 0, none⟩) [y.hi, y.lo] := Rd_blk (by simp) b1 (fun i z hz j u hu => by
    rcases i with _ | _ | i <;> rcases j with _ | j <;> simp [encU] at hz hu <;> subst hz <;> simpa using hu)
  have h1 := fun p c d => hs (gr W p) _ _ c d (hR0.below (gr_below W p)) (hR1.below (gr_below W p))
  have hBg : ∀ p, Below w.heap.size w (gr W p) := fun p => hB.trans ((gr_below _ _).mono hB.size)
  clear hs hR0 hR1
  go_enter Tryz.func120, Tryz.ntmps120
  go_wp2_with fail
  refine wp_region_gr (by kernel_rfl) (by kernel_rfl) ?_
  repeat (go_big_quiet_step ((go_at_call 138; with_reducible exact Calls.gr_of (h1 _ _ _))))
  refine wpQuiet_nil ?_
  rintro _ ⟨pq, rfl⟩
  go_wp2
  go_ret
  exact ⟨rfl, hBg _⟩
theorem rless_dec (x y : ID) : idLess x y = decide (x.hi < y.hi ∨ x.hi = y.hi ∧ x.lo < y.lo) := by
  unfold idLess
  rw [Bool.eq_iff_iff]
  simp
set_option maxRecDepth 100000 in
set_option maxHeartbeats 1000000 in
theorem rless_any (x y : ID) (w : World) : Calls Tryz.prog 118 #[idv x, idv y] w fun e w' => e = .returned (.bool (idLess x y)) ∧ Below w.heap.size w w' := by
  rw [rless_dec]
  unfold idv
  have hW : ∃ W, (w.alloc (.cells #[.int .u64 x.hi, .int .u64 x.lo] 35)).alloc (.cells #[.int .u64 y.hi, .int .u64 y.lo] 35) = W := ⟨_, rfl⟩
  obtain ⟨W, hW⟩ := hW
  have hB : Below w.heap.size w W := by subst hW; exact ((Below.refl _ w).alloc (Nat.le_refl _) _).alloc (by simp) _
  have b0 : W.heap[w.heap.size]? = some (.cells #[.int .u64 x.hi, .int .u64 x.lo] 35 (0, 0)) := by subst hW; exact ha_lt (ha_at rfl)
  have b1 : W.heap[w.heap.size + 1]? = some (.cells #[.int .u64 y.hi, .int .u64 y.lo] 35 (0, 0)) := by subst hW; exact ha_at (by simp)
  obtain ⟨c0, c1, _, _⟩ := blk2 b0
  obtain ⟨c2, c3, _, _⟩ := blk2 b1
  obtain ⟨xh, xl⟩ := x
  obtain ⟨yh, yl⟩ := y
  go_enter Tryz.func118, Tryz.ntmps118
  go_wp2_with fail
  all_goals
    go_ret
    refine ⟨ret_bool ?_, hB⟩
    first | (rw [Bool.eq_iff_iff]; done) | (rw [Bool.eq_iff_iff]; simp only [Bool.and_eq_true, decide_eq_true_eq, Bool.false_eq_true, false_iff]; omega)
end Go.Proofs.YtaohkcdfjjiggaaGreat
