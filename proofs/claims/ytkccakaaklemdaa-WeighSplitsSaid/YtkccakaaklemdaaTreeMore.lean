/- More on chains and on what some weigh: plain laws. -/
import Derived.Test.YtkccakaaklemdaaRWeigh
namespace Go.Proofs.Ytkccakaaklemdaa
theorem tree_ind {l : List Blk} (ht : Tree l) {P : ID → Prop} (h0 : P zid) (hs : ∀ n (hn : n < l.length), P l[n].par → P (nameOf l[n])) : ∀ n (hn : n < l.length), P (nameOf l[n]) := by
  intro n
  induction n using Nat.strongRecOn with
  | ind n ih =>
    intro hn
    apply hs n hn
    rcases (ht n hn).2.2 with h | ⟨_, c, hc, h, _⟩
    · rw [h.1]; exact h0
    · obtain ⟨j, hj, rfl⟩ := List.getElem_of_mem hc
      simp only [List.length_take] at hj
      rw [← h]
      simp only [List.getElem_take]
      exact ih j (by omega) (by omega)
theorem known_or {l : List Blk} (x : ID) : x = zid ∨ (∃ (n : Nat) (hn : n < l.length), nameOf l[n] = x) ∨ (chain l x = [] ∧ x ≠ zid ∧ ∀ b ∈ l, nameOf b ≠ x) := by
  by_cases hx : x = zid
  · exact .inl hx
  · by_cases hb : ∃ b ∈ l, nameOf b = x
    · obtain ⟨b, hb, e⟩ := hb
      obtain ⟨n, hn, rfl⟩ := List.getElem_of_mem hb
      exact .inr (.inl ⟨n, hn, e⟩)
    · have hb' : ∀ b ∈ l, nameOf b ≠ x := fun b h e => hb ⟨b, h, e⟩
      exact .inr (.inr ⟨chain_unknown hx hb', hx, hb'⟩)
theorem chain_ind {l : List Blk} (ht : Tree l) {P : ID → List ID → Prop} (hn : ∀ x, P x []) (h0 : P zid [zid]) (hs : ∀ n (hn : n < l.length), P l[n].par (chain l l[n].par) → P (nameOf l[n]) (nameOf l[n] :: chain l l[n].par)) (x : ID) : P x (chain l x) := by
  rcases known_or (l := l) x with rfl | ⟨n, hlt, rfl⟩ | ⟨h, _⟩
  · rw [chain_zid ht]; exact h0
  · refine tree_ind ht (P := fun x => P x (chain l x)) (by rw [chain_zid ht]; exact h0) (fun n hlt ih => ?_) n hlt
    rw [chain_cons ht hlt]
    exact hs n hlt ih
  · rw [h]; exact hn x
theorem chain_trans {l : List Blk} {x id y : ID} (h1 : id ∈ chain l x) (h2 : y ∈ chain l id) : y ∈ chain l x := by
  by_cases ht : Tree l
  · revert h1 h2
    refine chain_ind ht (P := fun _ ch => id ∈ ch → y ∈ chain l id → y ∈ ch) (fun _ h => by simp at h) ?_ ?_ x
    · intro h1 h2
      simp only [List.mem_singleton] at h1
      subst h1
      rwa [chain_zid ht] at h2
    · intro n hn ih h1 h2
      rcases List.mem_cons.1 h1 with rfl | h1
      · rwa [chain_cons ht hn] at h2
      · exact List.mem_cons_of_mem _ (ih h1 h2)
  · rw [chain_notree ht] at h1; simp at h1
theorem chain_zmem {l : List Blk} {x : ID} (h : chain l x ≠ []) : zid ∈ chain l x := by
  by_cases ht : Tree l
  · revert h
    refine chain_ind ht (P := fun _ ch => ch ≠ [] → zid ∈ ch) (fun _ h => absurd rfl h) (by simp) ?_ x
    intro n hn ih _
    apply List.mem_cons_of_mem
    apply ih
    obtain ⟨r, hr⟩ := chain_head ht (par_mem ht hn)
    rw [hr]; simp
  · rw [chain_notree ht] at h; exact absurd rfl h
theorem chain_self {l : List Blk} {x : ID} (h : chain l x ≠ []) : x ∈ chain l x := by
  by_cases ht : Tree l
  · rcases known_or (l := l) x with rfl | ⟨n, hlt, rfl⟩ | ⟨h', _⟩
    · rw [chain_zid ht]; simp
    · rw [chain_cons ht hlt]; simp
    · exact absurd h' h
  · rw [chain_notree ht] at h; exact absurd rfl h
theorem chain_mem {l : List Blk} {x y : ID} (h : y ∈ chain l x) : chain l y ≠ [] := by
  by_cases ht : Tree l
  · revert h
    refine chain_ind ht (P := fun _ ch => y ∈ ch → chain l y ≠ []) (fun _ h => by simp at h) ?_ ?_ x
    · intro h; simp only [List.mem_singleton] at h; subst h; rw [chain_zid ht]; simp
    · intro n hn ih h
      rcases List.mem_cons.1 h with rfl | h
      · rw [chain_cons ht hn]; simp
      · exact ih h
  · rw [chain_notree ht] at h; simp at h
theorem chain_known {l : List Blk} {x : ID} (h : chain l x ≠ []) : x = zid ∨ ∃ b ∈ l, nameOf b = x := by
  rcases known_or (l := l) x with rfl | ⟨n, hlt, rfl⟩ | ⟨h', _⟩
  · exact .inl rfl
  · exact .inr ⟨_, List.getElem_mem hlt, rfl⟩
  · exact absurd h' h
theorem tree_app {l : List Blk} {b : Blk} (h : Tree (l ++ [b])) : Tree l ∧ Okb l b := by
  have hk : l.length < (l ++ [b]).length := by simp
  have h' : Tree ((l ++ [b]).take (l.length + 1)) := by rw [List.take_of_length_le (by simp)]; exact h
  obtain ⟨h1, h2⟩ := (tree_snoc hk).1 h'
  rw [List.take_left] at h1 h2
  rw [List.getElem_concat_length rfl] at h2
  exact ⟨h1, h2⟩
/-- One block more turns no other chain. -/
theorem chain_snoc {l : List Blk} {b : Blk} (ht : Tree (l ++ [b])) {x : ID} (hx : x ≠ nameOf b) : chain (l ++ [b]) x = chain l x := by
  obtain ⟨htl, hb⟩ := tree_app ht
  have hk : ∀ n (hn : n < l.length), chain (l ++ [b]) (nameOf l[n]) = chain l (nameOf l[n]) := by
    refine tree_ind htl (P := fun x => chain (l ++ [b]) x = chain l x) (by rw [chain_zid ht, chain_zid htl]) (fun n hn ih => ?_)
    have hn' : n < (l ++ [b]).length := by simp; omega
    have e : (l ++ [b])[n] = l[n] := List.getElem_append_left hn
    have := chain_cons ht hn'
    rw [e] at this
    rw [this, chain_cons htl hn, ih]
  rcases known_or (l := l) x with rfl | ⟨n, hlt, rfl⟩ | ⟨h', h0, hn⟩
  · rw [chain_zid ht, chain_zid htl]
  · exact hk n hlt
  · rw [h']
    refine chain_unknown h0 (fun c hc => ?_)
    rcases List.mem_append.1 hc with hc | hc
    · exact hn c hc
    · simp only [List.mem_singleton] at hc; subst hc; exact fun e => hx e.symm
theorem chain_new {l : List Blk} {b : Blk} (ht : Tree (l ++ [b])) (x : ID) : nameOf b ∉ chain l x := by
  obtain ⟨htl, hb⟩ := tree_app ht
  intro h
  rcases chain_known (chain_mem h) with e | ⟨c, hc, e⟩
  · exact hb.1 e
  · exact hb.2.1 c hc e
/-! What some weigh. -/
theorem wsumTo_mono {W : List Int} (h : ∀ x ∈ W, 0 ≤ x ∧ x ≤ 1099511627776) {p q : Nat → Bool} (hpq : ∀ i, p i = true → q i = true) (k : Nat) : wsumTo W p k ≤ wsumTo W q k := by
  induction k with
  | zero => simp [wsumTo]
  | succ k ih =>
    simp only [wsumTo]
    have hx : 0 ≤ W[k]?.getD 0 := by
      cases hk : W[k]? with
      | none => simp
      | some x => exact (h x (List.mem_of_getElem? hk)).1
    have := hpq k
    cases hp : p k <;> cases hq : q k <;> simp_all <;> omega
theorem weightC_mono (c : Cfg) {a b : List Int} (h : ∀ x ∈ a, x ∈ b) : weightC c a ≤ weightC c b := by
  unfold weightC
  split
  · rename_i hm
    exact wsumTo_mono hm.W (fun i hi => by simp only [decide_eq_true_eq] at hi ⊢; exact h _ hi) _
  · omega
theorem weightC_total (c : Cfg) (a : List Int) : weightC c a ≤ totalC c := by
  unfold weightC totalC
  split
  · rename_i hm
    exact wsumTo_mono hm.W (fun _ _ => rfl) _
  · omega
theorem weightC_bd (c : Cfg) (a : List Int) : 0 ≤ weightC c a ∧ weightC c a ≤ 13194139533312 := by
  unfold weightC
  split
  · rename_i hm
    have := wsumTo_bd hm.W (fun i => decide ((i : Int) ∈ a)) c.W.length
    have := hm.len
    omega
  · omega
theorem whoOn_sub {l : List Blk} {vs vs' : List Vote} {id id' : ID} (h : ∀ v ∈ vs, id ∈ chain l v.head → v ∈ vs' ∧ id' ∈ chain l v.head) : ∀ x ∈ whoOn l vs id, x ∈ whoOn l vs' id' := by
  intro x hx
  unfold whoOn at *
  obtain ⟨v, hv, rfl⟩ := List.mem_map.1 hx
  rw [List.mem_filter] at hv
  obtain ⟨h1, h2⟩ := hv
  simp only [decide_eq_true_eq] at h2
  obtain ⟨h3, h4⟩ := h v h1 h2
  exact List.mem_map.2 ⟨v, List.mem_filter.2 ⟨h3, by simpa using h4⟩, rfl⟩
theorem onC_more (c : Cfg) (l : List Blk) (vs : List Vote) (x : Vote) (id : ID) : onC c l vs id ≤ onC c l (vs ++ [x]) id :=
  weightC_mono c (whoOn_sub fun _ hv h => ⟨List.mem_append_left _ hv, h⟩)
theorem onC_all (c : Cfg) (l : List Blk) (vs : List Vote) (id : ID) : onC c l vs id ≤ onC c l vs zid :=
  weightC_mono c (whoOn_sub fun _ hv h => ⟨hv, chain_zmem (fun e => by rw [e] at h; simp at h)⟩)
theorem onC_low (c : Cfg) (l : List Blk) (vs : List Vote) {low id : ID} (h : low ∈ chain l id) : onC c l vs id ≤ onC c l vs low :=
  weightC_mono c (whoOn_sub fun _ hv h' => ⟨hv, chain_trans h' h⟩)
theorem onC_snoc (c : Cfg) {l : List Blk} {b : Blk} (vs : List Vote) (id : ID) (ht : Tree (l ++ [b])) (hv : ∀ v ∈ vs, v.head ≠ nameOf b) : onC c (l ++ [b]) vs id = onC c l vs id := by
  unfold onC
  congr 1
  unfold whoOn
  congr 1
  apply List.filter_congr
  intro v hm
  rw [chain_snoc ht (hv v hm)]
theorem onC_new (c : Cfg) {l : List Blk} {b : Blk} (vs : List Vote) (ht : Tree (l ++ [b])) (hv : ∀ v ∈ vs, v.head ≠ nameOf b) : onC c (l ++ [b]) vs (nameOf b) = 0 := by
  have : whoOn (l ++ [b]) vs (nameOf b) = [] := by
    unfold whoOn
    rw [List.map_eq_nil_iff, List.filter_eq_nil_iff]
    intro v hm
    rw [chain_snoc ht (hv v hm)]
    simpa using chain_new ht v.head
  unfold onC
  rw [this, weightC_nil]
/-! All weigh twice as much. -/
def dbl (c : Cfg) : Cfg := { c with W := c.W.map (2 * ·) }
theorem wsumTo_dbl (W : List Int) (p : Nat → Bool) (k : Nat) : wsumTo (W.map (2 * ·)) p k = 2 * wsumTo W p k := by
  induction k with
  | zero => simp [wsumTo]
  | succ k ih =>
    simp only [wsumTo, ih, List.getElem?_map]
    cases hW : W[k]? <;> cases hp : p k <;> simp <;> omega
theorem onC_dbl {c : Cfg} (hm : MayC c) (hs : ∀ x ∈ c.W, x ≤ 549755813888) (l : List Blk) (vs : List Vote) (id : ID) : onC (dbl c) l vs id = 2 * onC c l vs id := by
  have hd : MayC (dbl c) := by
    obtain ⟨⟨h1, h2, h3⟩, h4⟩ := hm
    refine ⟨⟨by simpa [dbl] using h1, by simpa [dbl] using h2, fun x hx => ?_⟩, h4⟩
    obtain ⟨y, hy, rfl⟩ := List.mem_map.1 hx
    have := h3 y hy
    have := hs y hy
    omega
  unfold onC weightC
  rw [if_pos hd, if_pos hm]
  simp only [dbl, List.length_map]
  exact wsumTo_dbl _ _ _
end Go.Proofs.Ytkccakaaklemdaa
