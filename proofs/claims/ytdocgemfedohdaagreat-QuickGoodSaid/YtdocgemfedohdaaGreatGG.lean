/- GG: several texts in one. -/
import Derived.Test.YtdocgemfedohdaaGreatGF
import Derived.Test.YtdocgemfedohdaaGreatGD
import Derived.Test.YtdocgemfedohdaaGreatGA
/-! The head that is come to by any weights of blocks: the plain law. -/
namespace Go.Proofs.YtdocgemfedohdaaGreat
/-- k is better than b. -/
def beats (wt : ID → Int) (b k : ID) : Bool := decide (wt b < wt k) || decide (wt k = wt b) && idLess b k
def pick (wt : ID → Int) (b k : ID) : ID := if beats wt b k then k else b
noncomputable def headGo (l : List Blk) (wt : ID → Int) : Nat → ID → ID
  | 0, id => id
  | f + 1, id => match kids l id with
    | [] => id
    | k :: ks => headGo l wt f (ks.foldl (pick wt) k)
noncomputable def headBy (l : List Blk) (wt : ID → Int) : ID := headGo l wt l.length zid
theorem headGo_nil {l : List Blk} {wt : ID → Int} {id : ID} (h : kids l id = []) (n : Nat) : headGo l wt n id = id := by
  cases n with
  | zero => rfl
  | succ n => simp [headGo, h]
theorem headGo_cons {l : List Blk} {wt : ID → Int} {id k : ID} {ks : List ID} (h : kids l id = k :: ks) (n : Nat) : headGo l wt (n + 1) id = headGo l wt n (ks.foldl (pick wt) k) := by
  simp [headGo, h]
theorem kids_mem {l : List Blk} {id k : ID} (h : k ∈ kids l id) : Tree l ∧ ∃ (n : Nat) (hn : n < l.length), nameOf l[n] = k ∧ l[n].par = id := by
  unfold kids at h
  split at h
  · rename_i ht
    unfold kidsOf at h
    obtain ⟨b, hb, rfl⟩ := List.mem_map.1 h
    obtain ⟨hb1, hb2⟩ := List.mem_filter.1 hb
    obtain ⟨n, hn, rfl⟩ := List.getElem_of_mem hb1
    exact ⟨ht, n, hn, rfl, by simpa using hb2⟩
  · simp at h
theorem kids_of {l : List Blk} (ht : Tree l) {n : Nat} (hn : n < l.length) : nameOf l[n] ∈ kids l l[n].par := by
  unfold kids
  rw [if_pos ht]
  unfold kidsOf
  exact List.mem_map.2 ⟨l[n], List.mem_filter.2 ⟨List.getElem_mem hn, by simp⟩, rfl⟩
theorem kids_chain {l : List Blk} {id k : ID} (h : k ∈ kids l id) : chain l k = k :: chain l id ∧ k ∉ chain l id ∧ chain l id ≠ [] := by
  obtain ⟨ht, n, hn, rfl, rfl⟩ := kids_mem h
  exact ⟨chain_cons ht hn, name_notin ht hn, par_chain ht hn⟩
theorem chain_bound {l : List Blk} (x : ID) : (chain l x).length ≤ l.length + 1 := by
  by_cases ht : Tree l
  · have hk : ∀ n (hn : n < l.length), (chain l (nameOf l[n])).length ≤ n + 2 := by
      intro n
      induction n using Nat.strongRecOn with
      | ind n ih =>
        intro hn
        rw [chain_cons ht hn, List.length_cons]
        rcases (ht n hn).2.2 with h | ⟨_, c, hc, h, _⟩
        · rw [h.1, chain_zid ht]; simp
        · obtain ⟨j, hj, rfl⟩ := List.getElem_of_mem hc
          simp only [List.length_take] at hj
          rw [← h]
          simp only [List.getElem_take]
          have := ih j (by omega) (by omega)
          omega
    rcases known_or (l := l) x with rfl | ⟨n, hn, rfl⟩ | ⟨h, _⟩
    · rw [chain_zid ht]; simp
    · have := hk n hn; omega
    · rw [h]; simp
  · rw [chain_notree ht]; simp
theorem kids_room {l : List Blk} {id k : ID} (h : k ∈ kids l id) : (chain l id).length ≤ l.length := by
  have h1 := chain_bound (l := l) k
  rw [(kids_chain h).1] at h1
  simp only [List.length_cons] at h1
  omega
theorem pick_mem (wt : ID → Int) : ∀ (ks : List ID) (k : ID), ks.foldl (pick wt) k ∈ k :: ks
  | [], k => by simp
  | x :: ks, k => by
    have h := pick_mem wt ks (pick wt k x)
    simp only [List.foldl_cons]
    rcases List.mem_cons.1 h with h | h
    · rw [h]
      unfold pick
      split <;> simp
    · simp [h]
theorem pick_kids {l : List Blk} {wt : ID → Int} {id k : ID} {ks : List ID} (h : kids l id = k :: ks) : ks.foldl (pick wt) k ∈ kids l id := by
  rw [h]; exact pick_mem wt ks k
theorem headGo_fuel {l : List Blk} {wt : ID → Int} : ∀ (n : Nat) (id : ID), l.length + 1 ≤ n + (chain l id).length → headGo l wt (n + 1) id = headGo l wt n id
  | 0, id, h => by
    cases hk : kids l id with
    | nil => rw [headGo_nil hk, headGo_nil hk]
    | cons k ks =>
      have := kids_room (l := l) (id := id) (k := k) (by rw [hk]; simp)
      omega
  | n + 1, id, h => by
    cases hk : kids l id with
    | nil => rw [headGo_nil hk, headGo_nil hk]
    | cons k ks =>
      rw [headGo_cons hk, headGo_cons hk]
      apply headGo_fuel
      rw [(kids_chain (pick_kids hk)).1, List.length_cons]
      omega
theorem headGo_notree {l : List Blk} (ht : ¬ Tree l) (wt : ID → Int) (n : Nat) (id : ID) : headGo l wt n id = id := headGo_nil (by simp [kids, ht]) n
theorem headGo_more {l : List Blk} {wt : ID → Int} : headGo l wt (l.length + 1) zid = headBy l wt := by
  by_cases ht : Tree l
  · exact headGo_fuel _ _ (by rw [chain_zid ht]; simp)
  · unfold headBy
    rw [headGo_notree ht, headGo_notree ht]
/-- Where one is when there is nothing above. -/
theorem headGo_end {l : List Blk} {wt : ID → Int} {n : Nat} {id : ID} (h : kids l id = []) (hh : headGo l wt n id = headBy l wt) : headBy l wt = id := by
  rw [← hh, headGo_nil h]
theorem headGo_desc {l : List Blk} {wt : ID → Int} : ∀ (n : Nat) (id : ID), chain l id ≠ [] → id ∈ chain l (headGo l wt n id)
  | 0, id, h => chain_self h
  | n + 1, id, h => by
    cases hk : kids l id with
    | nil => rw [headGo_nil hk]; exact chain_self h
    | cons k ks =>
      rw [headGo_cons hk]
      have hp := kids_chain (pick_kids (wt := wt) hk)
      have h1 : ks.foldl (pick wt) k ∈ chain l (headGo l wt n (ks.foldl (pick wt) k)) := headGo_desc n _ (by rw [hp.1]; simp)
      refine chain_trans h1 ?_
      rw [hp.1]
      exact List.mem_cons_of_mem _ (chain_self h)
theorem chain_lin {l : List Blk} {x a b : ID} (ha : a ∈ chain l x) (hb : b ∈ chain l x) : a ∈ chain l b ∨ b ∈ chain l a := by
  by_cases ht : Tree l
  · revert ha hb
    refine chain_ind ht (P := fun _ ch => a ∈ ch → b ∈ ch → a ∈ chain l b ∨ b ∈ chain l a) (fun _ h => by simp at h) ?_ ?_ x
    · intro h1 h2
      simp only [List.mem_singleton] at h1 h2
      subst h1; subst h2
      rw [chain_zid ht]; simp
    · intro n hn ih h1 h2
      rcases List.mem_cons.1 h1 with e1 | h1' <;> rcases List.mem_cons.1 h2 with e2 | h2'
      · left; rw [e1, e2, chain_cons ht hn]; simp
      · right; rw [e1, chain_cons ht hn]; exact List.mem_cons_of_mem _ h2'
      · left; rw [e2, chain_cons ht hn]; exact List.mem_cons_of_mem _ h1'
      · exact ih h1' h2'
  · rw [chain_notree ht] at ha; simp at ha
/-- Two that each are on the other one's chain are one. -/
theorem chain_anti {l : List Blk} {a b : ID} (h1 : a ∈ chain l b) (h2 : b ∈ chain l a) : a = b := by
  by_cases ht : Tree l
  · rcases known_or (l := l) b with rfl | ⟨n, hn, rfl⟩ | ⟨h, _⟩
    · rw [chain_zid ht] at h1; simpa using h1
    · have h3 := h1
      rw [chain_cons ht hn] at h1
      rcases List.mem_cons.1 h1 with e | h1
      · exact e
      · exact absurd (chain_trans h1 h2) (name_notin ht hn)
    · rw [h] at h1; simp at h1
  · rw [chain_notree ht] at h1; simp at h1
/-- Of the children of one just one is on a chain. -/
theorem kids_one {l : List Blk} {p k k' y : ID} (hk : k ∈ kids l p) (hk' : k' ∈ kids l p) (h : k ∈ chain l y) (h' : k' ∈ chain l y) : k = k' := by
  have c1 := kids_chain hk
  have c2 := kids_chain hk'
  rcases chain_lin h h' with e | e
  · rw [c2.1] at e
    rcases List.mem_cons.1 e with e | e
    · exact e
    · exact absurd e c1.2.1
  · rw [c1.1] at e
    rcases List.mem_cons.1 e with e | e
    · exact e.symm
    · exact absurd e c2.2.1
/-- The child of one on the way to what is above it. -/
theorem kid_toward {l : List Blk} {x y : ID} (h : x ∈ chain l y) (hne : x ≠ y) : ∃ k ∈ kids l x, k ∈ chain l y := by
  by_cases ht : Tree l
  · revert h hne
    refine chain_ind ht (P := fun y ch => x ∈ ch → x ≠ y → ∃ k ∈ kids l x, k ∈ ch) (fun _ h => by simp at h) ?_ ?_ y
    · intro h hne
      simp only [List.mem_singleton] at h
      exact absurd h hne
    · intro n hn ih h hne
      rcases List.mem_cons.1 h with e | h
      · exact absurd e hne
      · by_cases e : x = l[n].par
        · exact ⟨nameOf l[n], by rw [e]; exact kids_of ht hn, by simp⟩
        · obtain ⟨k, hk, hm⟩ := ih h e
          exact ⟨k, hk, List.mem_cons_of_mem _ hm⟩
  · rw [chain_notree ht] at h; simp at h
/-! Which child is the best one. -/
def over (wt : ID → Int) (x b : ID) : Prop := wt x < wt b ∨ (wt x = wt b ∧ idLess x b = true)
theorem idl_asymm {x y : ID} (h : idLess x y = true) : idLess y x = false := by
  unfold idLess at *
  simp only [Bool.or_eq_true, Bool.and_eq_true, decide_eq_true_eq, Bool.or_eq_false_iff, Bool.and_eq_false_iff, decide_eq_false_iff_not] at *
  omega
theorem idl_trans {x y z : ID} (h1 : idLess x y = true) (h2 : idLess y z = true) : idLess x z = true := by
  unfold idLess at *
  simp only [Bool.or_eq_true, Bool.and_eq_true, decide_eq_true_eq] at *
  omega
theorem idl_total {x y : ID} (h : x ≠ y) : idLess x y = true ∨ idLess y x = true := by
  unfold idLess
  simp only [Bool.or_eq_true, Bool.and_eq_true, decide_eq_true_eq]
  obtain ⟨a, b⟩ := x
  obtain ⟨c, d⟩ := y
  simp only [ne_eq, ID.mk.injEq, not_and] at h
  simp only
  by_cases e : a = c
  · have := h e; omega
  · omega
theorem beats_iff {wt : ID → Int} {b k : ID} : beats wt b k = true ↔ over wt b k := by
  unfold beats over
  simp only [Bool.or_eq_true, Bool.and_eq_true, decide_eq_true_eq]
  constructor
  · rintro (h | ⟨h, h'⟩)
    · exact .inl h
    · exact .inr ⟨h.symm, h'⟩
  · rintro (h | ⟨h, h'⟩)
    · exact .inl h
    · exact .inr ⟨h.symm, h'⟩
theorem over_trans {wt : ID → Int} {x y z : ID} (h1 : over wt x y) (h2 : over wt y z) : over wt x z := by
  rcases h1 with h1 | ⟨h1, e1⟩ <;> rcases h2 with h2 | ⟨h2, e2⟩
  · exact .inl (by omega)
  · exact .inl (by omega)
  · exact .inl (by omega)
  · exact .inr ⟨by omega, idl_trans e1 e2⟩
theorem over_asymm {wt : ID → Int} {x y : ID} (h1 : over wt x y) (h2 : over wt y x) : False := by
  rcases h1 with h1 | ⟨h1, e1⟩ <;> rcases h2 with h2 | ⟨h2, e2⟩
  · omega
  · omega
  · omega
  · rw [idl_asymm e1] at e2; cases e2
theorem over_total {wt : ID → Int} {x y : ID} (h : x ≠ y) : over wt x y ∨ over wt y x := by
  unfold over
  rcases Int.lt_trichotomy (wt x) (wt y) with h1 | h1 | h1
  · exact .inl (.inl h1)
  · rcases idl_total h with e | e
    · exact .inl (.inr ⟨h1, e⟩)
    · exact .inr (.inr ⟨h1.symm, e⟩)
  · exact .inr (.inl h1)
theorem pick_over (wt : ID → Int) (b k : ID) : (b = pick wt b k ∨ over wt b (pick wt b k)) ∧ (k = pick wt b k ∨ over wt k (pick wt b k)) := by
  unfold pick
  by_cases h : beats wt b k = true
  · rw [if_pos h]; exact ⟨.inr (beats_iff.1 h), .inl rfl⟩
  · rw [if_neg h]
    refine ⟨.inl rfl, ?_⟩
    by_cases e : k = b
    · exact .inl e
    · rcases over_total (wt := wt) e with h' | h'
      · exact .inr h'
      · exact absurd (beats_iff.2 h') h
theorem best_over (wt : ID → Int) : ∀ (ks : List ID) (k : ID), ∀ x ∈ k :: ks, x = ks.foldl (pick wt) k ∨ over wt x (ks.foldl (pick wt) k)
  | [], k, x, hx => by left; simpa using hx
  | y :: ks, k, x, hx => by
    simp only [List.foldl_cons]
    have ih := best_over wt ks (pick wt k y)
    have h0 := ih (pick wt k y) (by simp)
    have hp := pick_over wt k y
    have go : ∀ z, (z = pick wt k y ∨ over wt z (pick wt k y)) → z = ks.foldl (pick wt) (pick wt k y) ∨ over wt z (ks.foldl (pick wt) (pick wt k y)) := by
      intro z hz
      rcases hz with e | h
      · rw [e]; exact h0
      · rcases h0 with e | h'
        · rw [← e]; exact .inr h
        · exact .inr (over_trans h h')
    rcases List.mem_cons.1 hx with rfl | hx
    · exact go _ hp.1
    · rcases List.mem_cons.1 hx with rfl | hx
      · exact go _ hp.2
      · exact ih x (List.mem_cons_of_mem _ hx)
theorem best_uniq {wt : ID → Int} {ks : List ID} {k b : ID} (hb : b ∈ k :: ks) (h : ∀ x ∈ k :: ks, x = b ∨ over wt x b) : ks.foldl (pick wt) k = b := by
  have h1 := h _ (pick_mem wt ks k)
  rcases h1 with e | h1
  · exact e
  · rcases best_over wt ks k b hb with e | h2
    · exact e.symm
    · exact (over_asymm h1 h2).elim
/-- Where the children on the way to y weigh more than all others, y is under the head. -/
theorem head_under {l : List Blk} {wt : ID → Int} {y : ID} (hy : chain l y ≠ []) (hdom : ∀ p k k', k ∈ kids l p → k' ∈ kids l p → k ≠ k' → k ∈ chain l y → wt k' < wt k) : y ∈ chain l (headBy l wt) := by
  have ht : Tree l := Classical.byContradiction fun h => hy (chain_notree h y)
  have go : ∀ (n : Nat) (x : ID), x ∈ chain l y → l.length + 1 ≤ n + (chain l x).length → y ∈ chain l (headGo l wt n x) := by
    intro n
    induction n with
    | zero =>
      intro x hx hl
      by_cases e : x = y
      · subst e; exact headGo_desc _ _ hy
      · obtain ⟨k, hk, _⟩ := kid_toward hx e
        have := kids_room hk
        omega
    | succ n ih =>
      intro x hx hl
      by_cases e : x = y
      · subst e; exact headGo_desc _ _ hy
      · obtain ⟨k, hk, hky⟩ := kid_toward hx e
        cases hks : kids l x with
        | nil => rw [hks] at hk; simp at hk
        | cons k0 ks =>
          rw [headGo_cons hks]
          have hb : ks.foldl (pick wt) k0 = k := by
            refine best_uniq (by rw [← hks]; exact hk) (fun z hz => ?_)
            by_cases e : z = k
            · exact .inl e
            · exact .inr (.inl (hdom x k z hk (by rw [hks]; exact hz) (fun h => e h.symm) hky))
          rw [hb]
          refine ih k hky ?_
          rw [(kids_chain hk).1, List.length_cons]
          omega
  exact go l.length zid (chain_zmem hy) (by rw [chain_zid ht]; simp)
theorem head_known {l : List Blk} (ht : Tree l) (wt : ID → Int) : chain l (headBy l wt) ≠ [] := by
  have := headGo_desc (wt := wt) l.length zid (by rw [chain_zid ht]; simp)
  intro e
  unfold headBy at e
  rw [e] at this
  simp at this
/-- More weight on one, and all that it stands on, leaves it under the head. -/
theorem head_raise {l : List Blk} {wt wt' : ID → Int} {y : ID} {d : Int} (hd : 0 ≤ d) (hw : ∀ x, wt' x = wt x + (if x ∈ chain l y then d else 0)) (h : y ∈ chain l (headBy l wt)) : y ∈ chain l (headBy l wt') := by
  have hy : chain l y ≠ [] := chain_mem h
  have go : ∀ (n : Nat) (x : ID), x ∈ chain l y → y ∈ chain l (headGo l wt n x) → y ∈ chain l (headGo l wt' n x) := by
    intro n
    induction n with
    | zero => intro x _ h; exact h
    | succ n ih =>
      intro x hx h
      by_cases e : x = y
      · subst e; exact headGo_desc _ _ hy
      · cases hks : kids l x with
        | nil => rw [headGo_nil hks] at h ⊢; exact h
        | cons k0 ks =>
          rw [headGo_cons hks] at h ⊢
          have hbk := pick_kids (wt := wt) hks
          have hbc := kids_chain hbk
          have hbh : ks.foldl (pick wt) k0 ∈ chain l (headGo l wt n (ks.foldl (pick wt) k0)) := headGo_desc n _ (by rw [hbc.1]; simp)
          have hby : ks.foldl (pick wt) k0 ∈ chain l y := by
            rcases chain_lin hbh h with e' | e'
            · exact e'
            · rw [hbc.1] at e'
              rcases List.mem_cons.1 e' with e' | e'
              · rw [← e']; exact chain_self hy
              · exact absurd (chain_anti hx e') e
          have hb : ks.foldl (pick wt') k0 = ks.foldl (pick wt) k0 := by
            refine best_uniq (pick_mem wt ks k0) (fun z hz => ?_)
            by_cases e1 : z = ks.foldl (pick wt) k0
            · exact .inl e1
            · right
              have hz' : z ∉ chain l y := fun hzy => e1 (kids_one (by rw [hks]; exact hz) hbk hzy hby)
              have hzw : wt' z = wt z := by rw [hw, if_neg hz']; omega
              have hbw : wt' (ks.foldl (pick wt) k0) = wt (ks.foldl (pick wt) k0) + d := by rw [hw, if_pos hby]
              rcases best_over wt ks k0 z hz with e2 | e2 | ⟨e2, e3⟩
              · exact absurd e2 e1
              · left; omega
              · unfold over
                rw [hzw, hbw]
                by_cases d0 : d = 0
                · right; exact ⟨by omega, e3⟩
                · left; omega
          rw [hb]
          exact ih _ hby h
  exact go l.length zid (chain_zmem hy) h
/-! How much is on two children of one. -/
theorem sumL_two {α : Type} {f : α → Int} (h : ∀ k, 0 ≤ f k) : ∀ (ks : List α) {a b : α}, a ∈ ks → b ∈ ks → a ≠ b → f a + f b ≤ sumL f ks
  | [], a, b, ha, _, _ => by simp at ha
  | k :: ks, a, b, ha, hb, hne => by
    have one : ∀ (ks : List α) {a : α}, a ∈ ks → f a ≤ sumL f ks := by
      intro ks
      induction ks with
      | nil => intro a h; simp at h
      | cons k ks ih =>
        intro a h'
        have hs : 0 ≤ sumL f ks := by
          clear ih h'
          induction ks with
          | nil => simp [sumL]
          | cons k ks ih => have := h k; simp only [sumL]; omega
        simp only [sumL]
        rcases List.mem_cons.1 h' with rfl | h'
        · omega
        · have := ih h'; have := h k; omega
    simp only [sumL]
    rcases List.mem_cons.1 ha with e1 | ha <;> rcases List.mem_cons.1 hb with e2 | hb
    · exact absurd (e1.trans e2.symm) hne
    · have := one ks hb; rw [e1]; omega
    · have := one ks ha; rw [e2]; omega
    · have := sumL_two h ks ha hb hne; have := h k; omega
theorem on_two (c : Cfg) {l : List Blk} {m : List Vote} (hm : RisesV m) {p k k' : ID} (hk : k ∈ kids l p) (hk' : k' ∈ kids l p) (hne : k ≠ k') : onC c l m k + onC c l m k' ≤ onC c l m p := by
  have ht := (kids_mem hk).1
  have h1 := on_splits c ht hm (id := p) (kids_chain hk).2.2
  have h2 : kids l p = kidsOf l p := by simp [kids, ht]
  rw [h2] at hk hk'
  have h3 := sumL_two (f := onC c l m) (fun x => (weightC_bd c _).1) _ hk hk' hne
  have h4 := (weightC_bd c (ownOf m p)).1
  omega
/-- What more is on than a half of all, and what is put on besides, is under the head. -/
theorem head_half (c : Cfg) {l : List Blk} {m : List Vote} (hm : RisesV m) {wt : ID → Int} {b : Int} (hb : 0 ≤ b) (hw : ∀ x, onC c l m x ≤ wt x ∧ wt x ≤ onC c l m x + b) {y : ID} (h : onC c l m zid + b < 2 * onC c l m y) : y ∈ chain l (headBy l wt) := by
  have hz := (weightC_bd c (whoOn l m zid)).1
  have hy : chain l y ≠ [] := fun e => by
    have h2 := on_unknown c (l := l) m e
    have h3 : 0 ≤ onC c l m zid := hz
    omega
  refine head_under hy (fun p k k' hk hk' hne hky => ?_)
  have h1 := on_two c hm hk hk' hne
  have h2 := onC_all c l m p
  have h3 := onC_low c l m hky
  have h4 := hw k
  have h5 := hw k'
  omega
/-! The boost. -/
def lmdW (c : Cfg) (l : List Blk) (m : List Vote) (bo : ID) (pct : Int) (x : ID) : Int := onC c l m x + (if bo ≠ zid ∧ x ∈ chain l bo then boostC c pct else 0)
noncomputable def lmdHead (c : Cfg) (l : List Blk) (m : List Vote) (bo : ID) (pct : Int) : ID := headBy l (lmdW c l m bo pct)
theorem lmdW_bd (c : Cfg) (l : List Blk) (m : List Vote) (bo : ID) (pct : Int) (x : ID) : onC c l m x ≤ lmdW c l m bo pct x ∧ lmdW c l m bo pct x ≤ onC c l m x + boostC c pct := by
  have := boostC_bd c pct
  unfold lmdW
  split <;> omega
theorem lmdW_plain (c : Cfg) (l : List Blk) (m : List Vote) (pct : Int) : lmdW c l m zid pct = onC c l m := by
  funext x
  simp [lmdW]
theorem lmdW_none (c : Cfg) (l : List Blk) (m : List Vote) (bo : ID) {pct : Int} (h : boostC c pct = 0) : lmdW c l m bo pct = onC c l m := by
  funext x
  simp [lmdW, h]
/-- LmdHalf. -/
theorem lmd_half (c : Cfg) {l : List Blk} {m : List Vote} (hm : RisesV m) (bo : ID) (pct : Int) {y : ID} (h : onC c l m zid + boostC c pct < 2 * onC c l m y) : y ∈ chain l (lmdHead c l m bo pct) :=
  head_half c hm (boostC_bd c pct).1 (lmdW_bd c l m bo pct) h
/-- LmdUp. -/
theorem lmd_up (c : Cfg) {l : List Blk} {m : List Vote} {bo : ID} {p q : Int} (hp : 0 ≤ p) (h : p ≤ q) (hq : q ≤ 100) (hu : bo ∈ chain l (lmdHead c l m bo p)) : bo ∈ chain l (lmdHead c l m bo q) := by
  have hb := boostC_mono c hp h hq
  by_cases hz : bo = zid
  · subst hz
    have ht : Tree l := Classical.byContradiction fun h => by rw [chain_notree h] at hu; simp at hu
    exact chain_zmem (head_known ht _)
  · refine head_raise (d := boostC c q - boostC c p) (by omega) (fun x => ?_) hu
    unfold lmdW
    by_cases hx : x ∈ chain l bo
    · simp only [hx, hz, ne_eq, not_false_iff, and_self, if_true]; omega
    · simp only [hx, and_false, if_false]; omega
/-- LmdBounds. -/
theorem lmd_low (c : Cfg) {l : List Blk} {m : List Vote} {bo : ID} {pct : Int} {low x : ID} (h : low ∈ chain l x) : lmdW c l m bo pct x ≤ lmdW c l m bo pct low := by
  have h1 := onC_low c l m h
  have h2 := boostC_bd c pct
  unfold lmdW
  by_cases hx : bo ≠ zid ∧ x ∈ chain l bo
  · rw [if_pos hx, if_pos ⟨hx.1, chain_trans hx.2 h⟩]; omega
  · rw [if_neg hx]; split <;> omega
/-- LmdNone. -/
theorem lmd_none (c : Cfg) {l : List Blk} {bo : ID} {pct : Int} (hb : boostC c pct ≠ 0) (hk : chain l bo ≠ []) : bo ∈ chain l (lmdHead c l [] bo pct) := by
  have hbd := boostC_bd c pct
  by_cases hz : bo = zid
  · subst hz
    have ht : Tree l := Classical.byContradiction fun h => hk (chain_notree h _)
    exact chain_zmem (head_known ht _)
  · refine head_under hk (fun p k k' h1 h2 hne h3 => ?_)
    have h4 : k' ∉ chain l bo := fun h => hne (kids_one h1 h2 h3 h)
    have h0 : ∀ x, onC c l [] x = 0 := fun x => weightC_nil c
    unfold lmdW
    rw [h0, h0]
    simp only [h3, h4, hz, ne_eq, not_false_iff, and_self, and_false, if_true, if_false]
    omega
end Go.Proofs.YtdocgemfedohdaaGreat
/-! Two slices of a call's own that do not share. -/
namespace Go.Proofs.YtdocgemfedohdaaGreat
def Apart2 (u v : Value) : Prop := ∀ k, u.ownBlock = some k → v.ownBlock ≠ some k
theorem Apart2.symm {u v : Value} (h : Apart2 u v) : Apart2 v u := fun k h1 h2 => h k h2 h1
theorem Apart2.row {u v : Value} (h : Apart2 u v) : u.ownBlock = none ∨ v.ownBlock ≠ u.ownBlock := by
  cases hu : u.ownBlock with
  | none => exact .inl rfl
  | some k => exact .inr (h k hu)
theorem Apart2.grow {u u' v : Value} {w : World} (h : Apart2 u v) (hu : u'.ownBlock = u.ownBlock ∨ u'.ownBlock = some w.heap.size) (hv : ∀ k, v.ownBlock = some k → k < w.heap.size) : Apart2 u' v := fun k h1 h2 => by
  rcases hu with e | e
  · exact h k (e.symm.trans h1) h2
  · rw [e] at h1; cases h1; have := hv _ h2; omega
theorem apart_nil (u : Value) : Apart2 (.slice none 0 0) u := fun k h => by simp [Value.ownBlock] at h
theorem Own.row2 {α : Type} {w w' : World} {base : Nat} {e : TypeId} {k : Nat} {enc : α → List Value} {u v : Value} {xs : List α} (h : Own w base e k enc v xs) (hg : w.grownBy w' u.ownBlock) (ha : Apart2 u v) : Own w' base e k enc v xs := by
  rcases ha.row with e' | e'
  · exact h.grown hg (.inl e')
  · exact h.grown hg (.inr e')
/-! What counts looks at which votes there are, no more. -/
theorem ofL_congr {l m : List Vote} (h : ∀ x, x ∈ l ↔ x ∈ m) (s : Int) : ofL l s = ofL m s :=
  ofL_eq ⟨(ofL_is l s).1, fun v => by rw [(ofL_is l s).2 v]; unfold InOf; rw [h v, dbl_congr h]⟩
theorem lastL_congr {l m : List Vote} (h : ∀ x, x ∈ l ↔ x ∈ m) (u : Int) : lastL l u = lastL m u :=
  lastL_eq ⟨(lastL_is l u).1, fun v => by rw [(lastL_is l u).2 v]; unfold InLast; simp only [h, dbl_congr h]⟩
theorem dblL_congr {l m : List Vote} (h : ∀ x, x ∈ l ↔ x ∈ m) (s : Int) : dblL l s = dblL m s :=
  dblL_eq ⟨(dblL_is l s).1, fun f => by rw [(dblL_is l s).2 f, dbl_congr h]⟩
def ownS (l : List Vote) (s : Int) : List Vote := l.filter fun x => x.slot == s
def uptoS (l : List Vote) (s : Int) : List Vote := l.filter fun x => decide (x.slot ≤ s)
theorem mem_ownS {l : List Vote} {s : Int} {x : Vote} : x ∈ ownS l s ↔ x ∈ l ∧ x.slot = s := by simp [ownS]
theorem mem_uptoS {l : List Vote} {s : Int} {x : Vote} : x ∈ uptoS l s ↔ x ∈ l ∧ x.slot ≤ s := by simp [uptoS]
theorem dbl_own {l : List Vote} {s f : Int} : Dbl (ownS l s) s f ↔ Dbl l s f := by
  constructor
  · exact dbl_mono fun x hx => (mem_ownS.1 hx).1
  · rintro ⟨x, hx, y, hy, h1, h2, h3, h4, h5⟩
    exact ⟨x, mem_ownS.2 ⟨hx, h3⟩, y, mem_ownS.2 ⟨hy, h4⟩, h1, h2, h3, h4, h5⟩
theorem dbl_upto {l : List Vote} {s u f : Int} (h : s ≤ u) : Dbl (uptoS l u) s f ↔ Dbl l s f := by
  constructor
  · exact dbl_mono fun x hx => (mem_uptoS.1 hx).1
  · rintro ⟨x, hx, y, hy, h1, h2, h3, h4, h5⟩
    exact ⟨x, mem_uptoS.2 ⟨hx, by omega⟩, y, mem_uptoS.2 ⟨hy, by omega⟩, h1, h2, h3, h4, h5⟩
theorem ofL_own (l : List Vote) (s : Int) : ofL (ownS l s) s = ofL l s :=
  ofL_eq ⟨(ofL_is _ s).1, fun v => by
    rw [(ofL_is _ s).2 v]
    unfold InOf
    rw [mem_ownS, dbl_own]
    exact ⟨fun ⟨⟨h1, _⟩, h3, h4⟩ => ⟨h1, h3, h4⟩, fun ⟨h1, h3, h4⟩ => ⟨⟨h1, h3⟩, h3, h4⟩⟩⟩
theorem dblL_own (l : List Vote) (s : Int) : dblL (ownS l s) s = dblL l s :=
  dblL_eq ⟨(dblL_is _ s).1, fun f => by rw [(dblL_is _ s).2 f, dbl_own]⟩
theorem lastL_upto (l : List Vote) (u : Int) : lastL (uptoS l u) u = lastL l u :=
  lastL_eq ⟨(lastL_is _ u).1, fun v => by
    rw [(lastL_is _ u).2 v]
    unfold InLast
    constructor
    · rintro ⟨h1, h2, h3, h4⟩
      exact ⟨(mem_uptoS.1 h1).1, h2, fun y hy hf hu => h3 y (mem_uptoS.2 ⟨hy, hu⟩) hf hu, fun y hy hf hu hd => h4 y (mem_uptoS.2 ⟨hy, hu⟩) hf hu ((dbl_upto hu).2 hd)⟩
    · rintro ⟨h1, h2, h3, h4⟩
      exact ⟨mem_uptoS.2 ⟨h1, h2⟩, h2, fun y hy hf hu => h3 y (mem_uptoS.1 hy).1 hf hu, fun y hy hf hu hd => h4 y (mem_uptoS.1 hy).1 hf hu ((dbl_upto hu).1 hd)⟩⟩
theorem ownS_snoc (l : List Vote) (s : Int) {k : Nat} (h : k < l.length) : ownS (l.take (k + 1)) s = ownS (l.take k) s ++ (if l[k].slot = s then [l[k]] else []) := by
  unfold ownS
  rw [List.take_succ_eq_append_getElem h, List.filter_append]
  by_cases e : l[k].slot = s <;> simp [e]
theorem uptoS_snoc (l : List Vote) (s : Int) {k : Nat} (h : k < l.length) : uptoS (l.take (k + 1)) s = uptoS (l.take k) s ++ (if l[k].slot ≤ s then [l[k]] else []) := by
  unfold uptoS
  rw [List.take_succ_eq_append_getElem h, List.filter_append]
  by_cases e : l[k].slot ≤ s <;> simp [e]
theorem ownS_len (l : List Vote) (s : Int) : (ownS l s).length ≤ l.length := List.length_filter_le _ _
theorem uptoS_len (l : List Vote) (s : Int) : (uptoS l s).length ≤ l.length := List.length_filter_le _ _
end Go.Proofs.YtdocgemfedohdaaGreat
/-! Who votes in a slot, and which of their votes count: the plain law. -/
namespace Go.Proofs.YtdocgemfedohdaaGreat
/-- Where a round of a shuffle takes a place. -/
def shufRound (seed n r i : Int) : Int :=
  let mate := (mixStep seed r % n + n - i) % n
  if mixStep (mixStep seed (1000 + r)) (if i < mate then mate else i) % 2 = 1 then mate else i
def shufTo (seed n : Int) : Nat → Int → Int
  | 0, i => i
  | r + 1, i => shufRound seed n r (shufTo seed n r i)
def shufAt (seed n i : Int) : Int := shufTo seed n 10 i
theorem shufRound_bd {seed n r i : Int} (hn : 0 < n) (h0 : 0 ≤ i) (h1 : i < n) : 0 ≤ shufRound seed n r i ∧ shufRound seed n r i < n := by
  unfold shufRound
  have h2 := Int.emod_nonneg (mixStep seed r % n + n - i) (show n ≠ 0 by omega)
  have h3 := Int.emod_lt_of_pos (mixStep seed r % n + n - i) hn
  simp only
  generalize (if i < (mixStep seed r % n + n - i) % n then (mixStep seed r % n + n - i) % n else i) = z
  split
  · exact ⟨h2, h3⟩
  · exact ⟨h0, h1⟩
theorem shufTo_bd {seed n i : Int} (hn : 0 < n) (h0 : 0 ≤ i) (h1 : i < n) : ∀ r, 0 ≤ shufTo seed n r i ∧ shufTo seed n r i < n
  | 0 => ⟨h0, h1⟩
  | r + 1 => by
    have ih := shufTo_bd hn h0 h1 (seed := seed) r
    exact shufRound_bd hn ih.1 ih.2
theorem shufAt_bd {seed n i : Int} (hn : 0 < n) (h0 : 0 ≤ i) (h1 : i < n) : 0 ≤ shufAt seed n i ∧ shufAt seed n i < n := shufTo_bd hn h0 h1 10
/-- A slot that may be. -/
def SlotOk (s : Int) : Prop := 1 ≤ s ∧ s ≤ 1048576
instance (s : Int) : Decidable (SlotOk s) := by unfold SlotOk; exact inferInstance
def comP (c : Cfg) (s : Int) (i : Nat) : Bool := decide (shufAt (mixStep c.seed (s / c.epoch)) c.W.length i % c.epoch = s % c.epoch)
def comL (c : Cfg) (s : Int) : List Int := (those c.W.length (comP c s) c.W.length).map fun i => (i.val : Int)
/-- Those who vote in a slot. -/
def comC (c : Cfg) (s : Int) : List Int := if MayC c ∧ SlotOk s then comL c s else []
theorem mem_those {m : Nat} {p : Nat → Bool} {x : Fin m} : ∀ k, x ∈ those m p k ↔ x.val < k ∧ p x.val = true
  | 0 => by simp [those]
  | k + 1 => by
    have ih := mem_those (x := x) (p := p) k
    simp only [those]
    have e2 : x.val = k → (x.val < k + 1) := by omega
    by_cases h : k < m
    · rw [dif_pos h]
      by_cases hp : p k = true
      · rw [if_pos hp, List.mem_append, ih, List.mem_singleton]
        constructor
        · rintro (⟨h1, h2⟩ | h1)
          · exact ⟨by omega, h2⟩
          · subst h1; exact ⟨by simp, hp⟩
        · rintro ⟨h1, h2⟩
          by_cases e : x.val = k
          · right; exact Fin.ext e
          · left; exact ⟨by omega, h2⟩
      · rw [if_neg hp, ih]
        constructor
        · rintro ⟨h1, h2⟩; exact ⟨by omega, h2⟩
        · rintro ⟨h1, h2⟩
          refine ⟨?_, h2⟩
          by_cases e : x.val = k
          · rw [e] at h2; exact absurd h2 hp
          · omega
    · rw [dif_neg h, ih]
      have := x.isLt
      constructor
      · rintro ⟨h1, h2⟩; exact ⟨by omega, h2⟩
      · rintro ⟨h1, h2⟩; exact ⟨by omega, h2⟩
theorem mem_comC {c : Cfg} {s x : Int} : x ∈ comC c s ↔ (MayC c ∧ SlotOk s) ∧ ∃ i : Nat, i < c.W.length ∧ x = i ∧ comP c s i = true := by
  unfold comC
  by_cases h : MayC c ∧ SlotOk s
  · rw [if_pos h]
    unfold comL
    rw [List.mem_map]
    constructor
    · rintro ⟨i, hi, rfl⟩
      exact ⟨h, i.val, i.isLt, rfl, ((mem_those _).1 hi).2⟩
    · rintro ⟨_, i, hi, rfl, hp⟩
      exact ⟨⟨i, hi⟩, (mem_those _).2 ⟨hi, hp⟩, rfl⟩
  · rw [if_neg h]
    exact ⟨fun e => (by cases e), fun e => absurd e.1 h⟩
theorem those_rises {m : Nat} (p : Nat → Bool) : ∀ k, Rises ((those m p k).map fun i => (i.val : Int))
  | 0 => trivial
  | k + 1 => by
    have ih := those_rises (m := m) p k
    simp only [those]
    split
    · rename_i h
      split
      · rw [List.map_append, List.map_singleton]
        have hlt : ∀ x ∈ (those m p k).map (fun i => (i.val : Int)), x < k := fun x hx => by
          obtain ⟨i, hi, rfl⟩ := List.mem_map.1 hx
          have := ((mem_those _).1 hi).1
          omega
        show Rises (_ ++ [(k : Int)])
        generalize (those m p k).map (fun i => (i.val : Int)) = l at ih hlt
        clear h
        induction l with
        | nil => exact ⟨by simp, trivial⟩
        | cons y l ih2 =>
          refine ⟨fun z hz => ?_, ih2 ih.2 (fun x hx => hlt x (by simp [hx]))⟩
          rcases List.mem_append.1 hz with hz | hz
          · exact ih.1 z hz
          · have := hlt y (by simp)
            rw [List.mem_singleton.1 hz]; exact this
      · exact ih
    · exact ih
theorem comC_rises (c : Cfg) (s : Int) : Rises (comC c s) := by
  unfold comC
  split
  · exact those_rises _ _
  · trivial
theorem comC_len (c : Cfg) (s : Int) : (comC c s).length ≤ 12 := by
  unfold comC
  split
  · rename_i h
    unfold comL
    rw [List.length_map]
    have := those_len c.W.length (comP c s) c.W.length
    have := h.1.len
    omega
  · simp
/-- The votes of a slot's committee that count. -/
def goldOf (c : Cfg) (v : List Vote) (s : Int) : List Vote := (ofL v s).filter fun x => decide (x.frm ∈ comC c s)
noncomputable def goldHead (c : Cfg) (l : List Blk) (v : List Vote) (s : Int) : ID := headBy l (onC c l (goldOf c v s))
theorem risesV_filter (p : Vote → Bool) : ∀ {o : List Vote}, RisesV o → RisesV (o.filter p)
  | [], _ => trivial
  | x :: xs, h => by
    have ih := risesV_filter p (o := xs) h.2
    by_cases e : p x = true
    · rw [List.filter_cons_of_pos e]
      refine ⟨fun z hz => ?_, ih⟩
      obtain ⟨y, hy, rfl⟩ := List.mem_map.1 hz
      exact h.1 _ (List.mem_map_of_mem (List.mem_filter.1 hy).1)
    · rw [List.filter_cons_of_neg e]
      exact ih
theorem goldOf_rises (c : Cfg) (v : List Vote) (s : Int) : RisesV (goldOf c v s) := risesV_filter _ (ofL_is v s).1
theorem goldOf_len (c : Cfg) (v : List Vote) (s : Int) : (goldOf c v s).length ≤ v.length := Nat.le_trans (List.length_filter_le _ _) (ofL_len v s)
theorem mem_gold {c : Cfg} {v : List Vote} {s : Int} {x : Vote} : x ∈ goldOf c v s ↔ InOf v s x ∧ x.frm ∈ comC c s := by
  unfold goldOf
  rw [List.mem_filter, (ofL_is v s).2 x]
  simp
theorem gold_congr {c : Cfg} {v v' : List Vote} {s : Int} (h : ∀ x, x ∈ v ↔ x ∈ v') : goldOf c v s = goldOf c v' s := by
  unfold goldOf
  rw [ofL_congr h]
theorem dbl_app {l : List Vote} {v : Vote} {s f : Int} (hf : f ≠ v.frm ∨ s ≠ v.slot) : Dbl (l ++ [v]) s f ↔ Dbl l s f := by
  constructor
  · rintro ⟨x, hx, y, hy, h1, h2, h3, h4, r⟩
    have : ∀ z ∈ l ++ [v], z.frm = f → z.slot = s → z ∈ l := fun z hz e e2 => by
      rcases List.mem_append.1 hz with hz | hz
      · exact hz
      · rw [List.mem_singleton.1 hz] at e e2
        rcases hf with h | h
        · exact absurd e.symm h
        · exact absurd e2.symm h
    exact ⟨x, this x hx h1 h3, y, this y hy h2 h4, h1, h2, h3, h4, r⟩
  · exact dbl_mono fun x hx => List.mem_append_left _ hx
/-- A vote of another slot, or of who is not in the committee, does not matter. -/
theorem gold_more {c : Cfg} {v : List Vote} {s : Int} {x : Vote} (h : ¬ (x.slot = s ∧ x.frm ∈ comC c s)) : goldOf c (v ++ [x]) s = goldOf c v s := by
  refine risesV_uniq (goldOf_rises _ _ _) (goldOf_rises _ _ _) fun z => ?_
  rw [mem_gold, mem_gold]
  unfold InOf
  have key : ∀ (_ : z.slot = s) (_ : z.frm ∈ comC c s), z.frm ≠ x.frm ∨ s ≠ x.slot := fun h1 h2 => by
    by_cases e : s = x.slot
    · left
      intro e2
      exact h ⟨e.symm, by rw [← e2]; exact h2⟩
    · exact .inr e
  constructor
  · rintro ⟨⟨h1, h2, h3⟩, h4⟩
    have hk := key h2 h4
    refine ⟨⟨?_, h2, fun hd => h3 ((dbl_app hk).2 hd)⟩, h4⟩
    rcases List.mem_append.1 h1 with h1 | h1
    · exact h1
    · rw [List.mem_singleton.1 h1] at h2 h4
      exact absurd ⟨h2, h4⟩ h
  · rintro ⟨⟨h1, h2, h3⟩, h4⟩
    have hk := key h2 h4
    exact ⟨⟨List.mem_append_left _ h1, h2, fun hd => h3 ((dbl_app hk).1 hd)⟩, h4⟩
/-- GoldHalf. -/
theorem gold_half (c : Cfg) {l : List Blk} {v : List Vote} {s : Int} {y : ID} (h : onC c l (goldOf c v s) zid < 2 * onC c l (goldOf c v s) y) : y ∈ chain l (goldHead c l v s) :=
  head_half c (goldOf_rises c v s) (Int.le_refl 0) (fun x => ⟨Int.le_refl _, by omega⟩) (by omega)
theorem wsumTo_sub {W : List Int} (h : ∀ x ∈ W, 0 ≤ x ∧ x ≤ 1099511627776) {p q : Nat → Bool} (hpq : ∀ i, i < W.length → p i = true → q i = true) : ∀ k, wsumTo W p k ≤ wsumTo W q k
  | 0 => Int.le_refl _
  | k + 1 => by
    have ih := wsumTo_sub h hpq k
    simp only [wsumTo]
    by_cases hk : k < W.length
    · have h1 := h _ (List.getElem_mem hk)
      by_cases hp : p k = true
      · rw [if_pos hp, if_pos (hpq k hk hp)]; omega
      · rw [if_neg hp]
        split <;> simp [hk] <;> omega
    · have : W[k]? = none := by simp; omega
      rw [this]
      simp only [Option.getD_none, ite_self]; omega
theorem weightC_sub {c : Cfg} {a b : List Int} (h : ∀ i : Nat, i < c.W.length → (i : Int) ∈ a → (i : Int) ∈ b) : weightC c a ≤ weightC c b := by
  unfold weightC
  by_cases hm : MayC c
  · rw [if_pos hm, if_pos hm]
    exact wsumTo_sub hm.W (fun i hi hp => by simpa using h i hi (by simpa using hp)) _
  · rw [if_neg hm, if_neg hm]; exact Int.le_refl _
/-- GoldOutvotes: who votes for y out of 'good' outweighs all who are not of them. -/
theorem gold_outvotes (c : Cfg) {l : List Blk} {v : List Vote} {s : Int} {y : ID} {good : List Vote} {bad : List Int} (hg : ∀ x ∈ good, x ∈ goldOf c v s)
    (hb : ∀ f ∈ comC c s, (¬ ∃ x ∈ good, x.frm = f ∧ y ∈ chain l x.head) → f ∈ bad) (h : weightC c bad < onC c l good y) : y ∈ chain l (goldHead c l v s) := by
  have hz := (weightC_bd c bad).1
  have hy : chain l y ≠ [] := fun e => by
    have h2 := on_unknown c (l := l) good e
    omega
  refine head_under hy (fun p k k' hk hk' hne hky => ?_)
  have h1 : onC c l good y ≤ onC c l (goldOf c v s) k := weightC_mono c (whoOn_sub fun x hx hc => ⟨hg x hx, chain_trans hc hky⟩)
  have h2 : onC c l (goldOf c v s) k' ≤ weightC c bad := by
    unfold onC
    refine weightC_sub fun i _ hi => ?_
    obtain ⟨x, hx, hxk, hxf⟩ := mem_whoOn.1 hi
    rw [← hxf]
    refine hb _ (mem_gold.1 hx).2 ?_
    rintro ⟨z, hz, hzf, hzy⟩
    have e : z = x := risesV_inj (goldOf_rises c v s) (hg z hz) hx hzf
    subst e
    exact hne (kids_one hk hk' (chain_trans hzy hky) hxk)
  omega
/-- GoldAll: in epochs of one slot all are in the committee. -/
theorem com_one {c : Cfg} {s : Int} (hm : MayC c) (hs : SlotOk s) (h1 : c.epoch = 1) (x : Int) : x ∈ comC c s ↔ 0 ≤ x ∧ x < c.W.length := by
  rw [mem_comC]
  constructor
  · rintro ⟨_, i, hi, rfl, _⟩; omega
  · rintro ⟨h2, h3⟩
    refine ⟨⟨hm, hs⟩, x.toNat, by omega, by omega, ?_⟩
    unfold comP
    rw [h1]
    have e1 := Int.emod_one (shufAt (mixStep c.seed (s / 1)) c.W.length x.toNat)
    have e2 := Int.emod_one s
    simp [e2]
theorem gold_none {c : Cfg} {s : Int} (h : ¬ (MayC c ∧ SlotOk s)) (v : List Vote) : goldOf c v s = [] := by
  unfold goldOf
  rw [List.filter_eq_nil_iff]
  intro x _ hx
  simp only [decide_eq_true_eq] at hx
  exact h (mem_comC.1 hx).1
end Go.Proofs.YtdocgemfedohdaaGreat
/-! How sure a block is: the plain law. -/
namespace Go.Proofs.YtdocgemfedohdaaGreat
def quickAll (c : Cfg) (s : Int) : Int := weightC c (comC c s)
def quickFor (c : Cfg) (l : List Blk) (v : List Vote) (s : Int) (y : ID) : Int := onC c l (goldOf c v s) y
def sureN (c : Cfg) (all n : Int) : Bool := moreB (2 * n) c.den all (c.den + 2 * c.num)
def quickSure (c : Cfg) (l : List Blk) (v : List Vote) (s : Int) (y : ID) : Bool := sureN c (quickAll c s) (quickFor c l v s y)
/-- The last one of a chain that is sure. -/
def topOf (sure : ID → Bool) : List ID → Bool × ID
  | x :: y :: r => if sure x then (true, x) else topOf sure (y :: r)
  | _ => (false, zid)
def quickTop (c : Cfg) (l : List Blk) (v : List Vote) (s : Int) (head : ID) : Bool × ID := topOf (quickSure c l v s) (chain l head)
theorem quickFor_bd (c : Cfg) (l : List Blk) (v : List Vote) (s : Int) (y : ID) : 0 ≤ quickFor c l v s y ∧ quickFor c l v s y ≤ 13194139533312 := weightC_bd c _
theorem quickAll_bd (c : Cfg) (s : Int) : 0 ≤ quickAll c s ∧ quickAll c s ≤ 13194139533312 := weightC_bd c _
/-- Numbers of a conf that are not too great. -/
def NumFew (c : Cfg) : Prop := (-1099511627776 ≤ c.num ∧ c.num ≤ 1099511627776) ∧ -1099511627776 ≤ c.den ∧ c.den ≤ 1099511627776
theorem MayC.few {c : Cfg} (h : MayC c) : NumFew c := by
  obtain ⟨_, _, _, h1, h2, h3, h4⟩ := h
  unfold NumFew
  omega
/-- Sure, in plain numbers. -/
theorem sureN_iff {c : Cfg} (h : MayC c) {all n : Int} (ha : 0 ≤ all ∧ all ≤ 13194139533312) (hn : 0 ≤ n ∧ n ≤ 13194139533312) : sureN c all n = true ↔ all * (c.den + 2 * c.num) < 2 * n * c.den := by
  obtain ⟨_, _, _, h1, h2, h3, h4⟩ := h
  unfold sureN moreB NumOk
  rw [decide_eq_true_eq]
  constructor
  · exact fun h => h.2
  · intro h
    refine ⟨⟨?_, ?_, ?_, ?_⟩, h⟩ <;> omega
end Go.Proofs.YtdocgemfedohdaaGreat
/-! The document's products, walked. -/
namespace Go.Proofs.YtdocgemfedohdaaGreat
open Go.RowKit
theorem wrapU_id {x : Int} (h0 : 0 ≤ x) (h1 : x < 18446744073709551616) : IntKind.u64.wrap x = x := by
  obtain ⟨n, rfl⟩ := Int.eq_ofNat_of_zero_le h0
  show ((n : Int) % 18446744073709551616) = n
  omega
theorem set4 {w : World} {b : Nat} {x y z t : Value} {T : TypeId} (h : w.heap[b]? = some (.cells #[x, y, z, t] T (0, 0))) (u v r s : Value) :
    ((((w.setCell ⟨b, 0, none⟩ u).setCell ⟨b, 1, none⟩ v).setCell ⟨b, 2, none⟩ r).setCell ⟨b, 3, none⟩ s).heap[b]? = some (.cells #[u, v, r, s] T (0, 0)) ∧ w.grownBy ((((w.setCell ⟨b, 0, none⟩ u).setCell ⟨b, 1, none⟩ v).setCell ⟨b, 2, none⟩ r).setCell ⟨b, 3, none⟩ s) (some b) := by
  refine ⟨?_, grown_trans (grown_trans (grown_trans (grown_set _ _ _) (grown_set _ _ _)) (grown_set _ _ _)) (grown_set _ _ _)⟩
  rw [heap_setCell_same _ _ _ _ _ _ (heap_setCell_same _ _ _ _ _ _ (heap_setCell_same _ _ _ _ _ _ (heap_setCell_same _ _ _ _ _ _ h)))]
  rfl
theorem wrapI_id {x : Int} (h0 : 0 ≤ x) (h1 : x < 4294967296) : wrap64 x = x := by unfold wrap64; omega
theorem tm_id {x : Int} (h0 : 0 ≤ x) : x.tmod 4294967296 = x % 4294967296 := Int.tmod_eq_emod_of_nonneg h0
theorem td_id {x : Int} (h0 : 0 ≤ x) : x.tdiv 4294967296 = x / 4294967296 := Int.tdiv_eq_ediv_of_nonneg h0
/-- The parts of a product, a list. -/
def wParts (a b : Int) : List Int := [wS a b / 4294967296, wS a b % 4294967296, wR a b % 4294967296, wU a b % 4294967296]
/-- What a look at the parts from the front tells. -/
def lexMore : List Int → List Int → Bool
  | x :: xs, y :: ys => if x = y then lexMore xs ys else decide (y < x)
  | _, _ => false
theorem lex_parts {a b c d : Int} (ha : NumOk a) (hb : NumOk b) (hc : NumOk c) (hd : NumOk d) : lexMore (wParts a b) (wParts c d) = decide (c * d < a * b) := by
  obtain ⟨⟨u0, u1⟩, _, ⟨r0, r1⟩, ⟨s0, s1⟩, _, _, _, _, e⟩ := wide_parts ha hb
  obtain ⟨⟨u0', u1'⟩, _, ⟨r0', r1'⟩, ⟨s0', s1'⟩, _, _, _, _, e'⟩ := wide_parts hc hd
  rw [e, e']
  unfold wParts
  generalize wS a b = s at *
  generalize wR a b = r at *
  generalize wU a b = u at *
  generalize wS c d = s' at *
  generalize wR c d = r' at *
  generalize wU c d = u' at *
  clear e e'
  rw [Bool.eq_iff_iff]
  simp only [lexMore]
  by_cases h1 : s / 4294967296 = s' / 4294967296
  · rw [if_pos h1]
    by_cases h2 : s % 4294967296 = s' % 4294967296
    · rw [if_pos h2]
      by_cases h3 : r % 4294967296 = r' % 4294967296
      · rw [if_pos h3]
        by_cases h4 : u % 4294967296 = u' % 4294967296
        · rw [if_pos h4]; simp only [decide_eq_true_eq, Bool.false_eq_true, false_iff]; omega
        · rw [if_neg h4]; simp only [decide_eq_true_eq]; omega
      · rw [if_neg h3]; simp only [decide_eq_true_eq]; omega
    · rw [if_neg h2]; simp only [decide_eq_true_eq]; omega
  · rw [if_neg h1]; simp only [decide_eq_true_eq]; omega
theorem lexMore_drop {p q : List Int} {j : Nat} (h1 : j < p.length) (h2 : j < q.length) : lexMore (p.drop j) (q.drop j) = if p[j] = q[j] then lexMore (p.drop (j + 1)) (q.drop (j + 1)) else decide (q[j] < p[j]) := by
  rw [List.drop_eq_getElem_cons h1, List.drop_eq_getElem_cons h2]
  rfl
end Go.Proofs.YtdocgemfedohdaaGreat
