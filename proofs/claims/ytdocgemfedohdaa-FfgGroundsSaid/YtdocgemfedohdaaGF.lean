/- GF: several texts in one. -/
import Derived.Test.YtdocgemfedohdaaGE
import Derived.Test.YtdocgemfedohdaaGA
import Derived.Test.YtdocgemfedohdaaShelf
import Derived.Test.YtdocgemfedohdaaGD
import Derived.Lib.RowBridge
/-! The walks of marigoldref08's OnIn, On, All. -/
namespace Go.Proofs.Ytdocgemfedohdaa
open Go.RowKit
theorem wsumTo_false (W : List Int) (k : Nat) : wsumTo W (fun _ => false) k = 0 := by
  induction k with
  | zero => rfl
  | succ k ih => simp [wsumTo, ih]
theorem weightC_nil (c : Cfg) : weightC c [] = 0 := by
  unfold weightC
  split
  · have : (fun i : Nat => decide ((i : Int) ∈ ([] : List Int))) = fun _ => false := by funext i; simp
    rw [this, wsumTo_false]
  · rfl
theorem onC_notree {l : List Blk} (h : ¬ Tree l) (c : Cfg) (vs : List Vote) (id : ID) : onC c l vs id = 0 := by
  have : whoOn l vs id = [] := by
    unfold whoOn
    simp [chain_notree h]
  unfold onC
  rw [this, weightC_nil]
end Go.Proofs.Ytdocgemfedohdaa
/-! More on chains and on what some weigh: plain laws. -/
namespace Go.Proofs.Ytdocgemfedohdaa
theorem tree_ind {l : List Blk} (ht : Tree l) {P : ID → Prop} (h0 : P zid) (hs : ∀ n (hn : n < l.length), P l[n].par → P (nameOf l[n])) : ∀ n (hn : n < l.length), P (nameOf l[n]) := by
  intro n
  induction n using Nat.strongRecOn with
  | ind n ih =>
    intro hn
    apply hs n hn
    rcases (ht n hn).2.2 with h | ⟨_, c, hc, h, _⟩
    · rw [h.1]; exact h0
    · obtain ⟨j, hj, rfl⟩ := List.getElem_of_mem hc
      simp only [List.length_take] at hj
      rw [← h]
      simp only [List.getElem_take]
      exact ih j (by omega) (by omega)
theorem known_or {l : List Blk} (x : ID) : x = zid ∨ (∃ (n : Nat) (hn : n < l.length), nameOf l[n] = x) ∨ (chain l x = [] ∧ x ≠ zid ∧ ∀ b ∈ l, nameOf b ≠ x) := by
  by_cases hx : x = zid
  · exact .inl hx
  · by_cases hb : ∃ b ∈ l, nameOf b = x
    · obtain ⟨b, hb, e⟩ := hb
      obtain ⟨n, hn, rfl⟩ := List.getElem_of_mem hb
      exact .inr (.inl ⟨n, hn, e⟩)
    · have hb' : ∀ b ∈ l, nameOf b ≠ x := fun b h e => hb ⟨b, h, e⟩
      exact .inr (.inr ⟨chain_unknown hx hb', hx, hb'⟩)
theorem chain_ind {l : List Blk} (ht : Tree l) {P : ID → List ID → Prop} (hn : ∀ x, P x []) (h0 : P zid [zid]) (hs : ∀ n (hn : n < l.length), P l[n].par (chain l l[n].par) → P (nameOf l[n]) (nameOf l[n] :: chain l l[n].par)) (x : ID) : P x (chain l x) := by
  rcases known_or (l := l) x with rfl | ⟨n, hlt, rfl⟩ | ⟨h, _⟩
  · rw [chain_zid ht]; exact h0
  · refine tree_ind ht (P := fun x => P x (chain l x)) (by rw [chain_zid ht]; exact h0) (fun n hlt ih => ?_) n hlt
    rw [chain_cons ht hlt]
    exact hs n hlt ih
  · rw [h]; exact hn x
theorem chain_trans {l : List Blk} {x id y : ID} (h1 : id ∈ chain l x) (h2 : y ∈ chain l id) : y ∈ chain l x := by
  by_cases ht : Tree l
  · revert h1 h2
    refine chain_ind ht (P := fun _ ch => id ∈ ch → y ∈ chain l id → y ∈ ch) (fun _ h => by simp at h) ?_ ?_ x
    · intro h1 h2
      simp only [List.mem_singleton] at h1
      subst h1
      rwa [chain_zid ht] at h2
    · intro n hn ih h1 h2
      rcases List.mem_cons.1 h1 with rfl | h1
      · rwa [chain_cons ht hn] at h2
      · exact List.mem_cons_of_mem _ (ih h1 h2)
  · rw [chain_notree ht] at h1; simp at h1
theorem chain_zmem {l : List Blk} {x : ID} (h : chain l x ≠ []) : zid ∈ chain l x := by
  by_cases ht : Tree l
  · revert h
    refine chain_ind ht (P := fun _ ch => ch ≠ [] → zid ∈ ch) (fun _ h => absurd rfl h) (by simp) ?_ x
    intro n hn ih _
    apply List.mem_cons_of_mem
    apply ih
    obtain ⟨r, hr⟩ := chain_head ht (par_mem ht hn)
    rw [hr]; simp
  · rw [chain_notree ht] at h; exact absurd rfl h
theorem chain_self {l : List Blk} {x : ID} (h : chain l x ≠ []) : x ∈ chain l x := by
  by_cases ht : Tree l
  · rcases known_or (l := l) x with rfl | ⟨n, hlt, rfl⟩ | ⟨h', _⟩
    · rw [chain_zid ht]; simp
    · rw [chain_cons ht hlt]; simp
    · exact absurd h' h
  · rw [chain_notree ht] at h; exact absurd rfl h
theorem chain_mem {l : List Blk} {x y : ID} (h : y ∈ chain l x) : chain l y ≠ [] := by
  by_cases ht : Tree l
  · revert h
    refine chain_ind ht (P := fun _ ch => y ∈ ch → chain l y ≠ []) (fun _ h => by simp at h) ?_ ?_ x
    · intro h; simp only [List.mem_singleton] at h; subst h; rw [chain_zid ht]; simp
    · intro n hn ih h
      rcases List.mem_cons.1 h with rfl | h
      · rw [chain_cons ht hn]; simp
      · exact ih h
  · rw [chain_notree ht] at h; simp at h
theorem chain_known {l : List Blk} {x : ID} (h : chain l x ≠ []) : x = zid ∨ ∃ b ∈ l, nameOf b = x := by
  rcases known_or (l := l) x with rfl | ⟨n, hlt, rfl⟩ | ⟨h', _⟩
  · exact .inl rfl
  · exact .inr ⟨_, List.getElem_mem hlt, rfl⟩
  · exact absurd h' h
theorem tree_app {l : List Blk} {b : Blk} (h : Tree (l ++ [b])) : Tree l ∧ Okb l b := by
  have hk : l.length < (l ++ [b]).length := by simp
  have h' : Tree ((l ++ [b]).take (l.length + 1)) := by rw [List.take_of_length_le (by simp)]; exact h
  obtain ⟨h1, h2⟩ := (tree_snoc hk).1 h'
  rw [List.take_left] at h1 h2
  rw [List.getElem_concat_length rfl] at h2
  exact ⟨h1, h2⟩
/-- One block more turns no other chain. -/
theorem chain_snoc {l : List Blk} {b : Blk} (ht : Tree (l ++ [b])) {x : ID} (hx : x ≠ nameOf b) : chain (l ++ [b]) x = chain l x := by
  obtain ⟨htl, hb⟩ := tree_app ht
  have hk : ∀ n (hn : n < l.length), chain (l ++ [b]) (nameOf l[n]) = chain l (nameOf l[n]) := by
    refine tree_ind htl (P := fun x => chain (l ++ [b]) x = chain l x) (by rw [chain_zid ht, chain_zid htl]) (fun n hn ih => ?_)
    have hn' : n < (l ++ [b]).length := by simp; omega
    have e : (l ++ [b])[n] = l[n] := List.getElem_append_left hn
    have := chain_cons ht hn'
    rw [e] at this
    rw [this, chain_cons htl hn, ih]
  rcases known_or (l := l) x with rfl | ⟨n, hlt, rfl⟩ | ⟨h', h0, hn⟩
  · rw [chain_zid ht, chain_zid htl]
  · exact hk n hlt
  · rw [h']
    refine chain_unknown h0 (fun c hc => ?_)
    rcases List.mem_append.1 hc with hc | hc
    · exact hn c hc
    · simp only [List.mem_singleton] at hc; subst hc; exact fun e => hx e.symm
theorem chain_new {l : List Blk} {b : Blk} (ht : Tree (l ++ [b])) (x : ID) : nameOf b ∉ chain l x := by
  obtain ⟨htl, hb⟩ := tree_app ht
  intro h
  rcases chain_known (chain_mem h) with e | ⟨c, hc, e⟩
  · exact hb.1 e
  · exact hb.2.1 c hc e
/-! What some weigh. -/
theorem wsumTo_mono {W : List Int} (h : ∀ x ∈ W, 0 ≤ x ∧ x ≤ 1099511627776) {p q : Nat → Bool} (hpq : ∀ i, p i = true → q i = true) (k : Nat) : wsumTo W p k ≤ wsumTo W q k := by
  induction k with
  | zero => simp [wsumTo]
  | succ k ih =>
    simp only [wsumTo]
    have hx : 0 ≤ W[k]?.getD 0 := by
      cases hk : W[k]? with
      | none => simp
      | some x => exact (h x (List.mem_of_getElem? hk)).1
    have := hpq k
    cases hp : p k <;> cases hq : q k <;> simp_all <;> omega
theorem weightC_mono (c : Cfg) {a b : List Int} (h : ∀ x ∈ a, x ∈ b) : weightC c a ≤ weightC c b := by
  unfold weightC
  split
  · rename_i hm
    exact wsumTo_mono hm.W (fun i hi => by simp only [decide_eq_true_eq] at hi ⊢; exact h _ hi) _
  · omega
theorem weightC_total (c : Cfg) (a : List Int) : weightC c a ≤ totalC c := by
  unfold weightC totalC
  split
  · rename_i hm
    exact wsumTo_mono hm.W (fun _ _ => rfl) _
  · omega
theorem weightC_bd (c : Cfg) (a : List Int) : 0 ≤ weightC c a ∧ weightC c a ≤ 13194139533312 := by
  unfold weightC
  split
  · rename_i hm
    have := wsumTo_bd hm.W (fun i => decide ((i : Int) ∈ a)) c.W.length
    have := hm.len
    omega
  · omega
theorem whoOn_sub {l : List Blk} {vs vs' : List Vote} {id id' : ID} (h : ∀ v ∈ vs, id ∈ chain l v.head → v ∈ vs' ∧ id' ∈ chain l v.head) : ∀ x ∈ whoOn l vs id, x ∈ whoOn l vs' id' := by
  intro x hx
  unfold whoOn at *
  obtain ⟨v, hv, rfl⟩ := List.mem_map.1 hx
  rw [List.mem_filter] at hv
  obtain ⟨h1, h2⟩ := hv
  simp only [decide_eq_true_eq] at h2
  obtain ⟨h3, h4⟩ := h v h1 h2
  exact List.mem_map.2 ⟨v, List.mem_filter.2 ⟨h3, by simpa using h4⟩, rfl⟩
theorem onC_more (c : Cfg) (l : List Blk) (vs : List Vote) (x : Vote) (id : ID) : onC c l vs id ≤ onC c l (vs ++ [x]) id :=
  weightC_mono c (whoOn_sub fun _ hv h => ⟨List.mem_append_left _ hv, h⟩)
theorem onC_all (c : Cfg) (l : List Blk) (vs : List Vote) (id : ID) : onC c l vs id ≤ onC c l vs zid :=
  weightC_mono c (whoOn_sub fun _ hv h => ⟨hv, chain_zmem (fun e => by rw [e] at h; simp at h)⟩)
theorem onC_low (c : Cfg) (l : List Blk) (vs : List Vote) {low id : ID} (h : low ∈ chain l id) : onC c l vs id ≤ onC c l vs low :=
  weightC_mono c (whoOn_sub fun _ hv h' => ⟨hv, chain_trans h' h⟩)
theorem onC_snoc (c : Cfg) {l : List Blk} {b : Blk} (vs : List Vote) (id : ID) (ht : Tree (l ++ [b])) (hv : ∀ v ∈ vs, v.head ≠ nameOf b) : onC c (l ++ [b]) vs id = onC c l vs id := by
  unfold onC
  congr 1
  unfold whoOn
  congr 1
  apply List.filter_congr
  intro v hm
  rw [chain_snoc ht (hv v hm)]
theorem onC_new (c : Cfg) {l : List Blk} {b : Blk} (vs : List Vote) (ht : Tree (l ++ [b])) (hv : ∀ v ∈ vs, v.head ≠ nameOf b) : onC c (l ++ [b]) vs (nameOf b) = 0 := by
  have : whoOn (l ++ [b]) vs (nameOf b) = [] := by
    unfold whoOn
    rw [List.map_eq_nil_iff, List.filter_eq_nil_iff]
    intro v hm
    rw [chain_snoc ht (hv v hm)]
    simpa using chain_new ht v.head
  unfold onC
  rw [this, weightC_nil]
/-! All weigh twice as much. -/
def dbl (c : Cfg) : Cfg := { c with W := c.W.map (2 * ·) }
theorem wsumTo_dbl (W : List Int) (p : Nat → Bool) (k : Nat) : wsumTo (W.map (2 * ·)) p k = 2 * wsumTo W p k := by
  induction k with
  | zero => simp [wsumTo]
  | succ k ih =>
    simp only [wsumTo, ih, List.getElem?_map]
    cases hW : W[k]? <;> cases hp : p k <;> simp <;> omega
theorem onC_dbl {c : Cfg} (hm : MayC c) (hs : ∀ x ∈ c.W, x ≤ 549755813888) (l : List Blk) (vs : List Vote) (id : ID) : onC (dbl c) l vs id = 2 * onC c l vs id := by
  have hd : MayC (dbl c) := by
    obtain ⟨⟨h1, h2, h3⟩, h4⟩ := hm
    refine ⟨⟨by simpa [dbl] using h1, by simpa [dbl] using h2, fun x hx => ?_⟩, h4⟩
    obtain ⟨y, hy, rfl⟩ := List.mem_map.1 hx
    have := h3 y hy
    have := hs y hy
    omega
  unfold onC weightC
  rw [if_pos hd, if_pos hm]
  simp only [dbl, List.length_map]
  exact wsumTo_dbl _ _ _
end Go.Proofs.Ytdocgemfedohdaa
/-! slices.Sort and slices.Compact of ints, of a slice of the call's own. -/
namespace Go.Proofs.Ytdocgemfedohdaa
open Go.RowKit
theorem encI_flat (l : List Int) : l.flatMap encI = l.map (Value.int .i64) := by
  induction l with
  | nil => rfl
  | cons x l ih => simp [encI, ih]
theorem Own.block {α : Type} {w : World} {base : Nat} {e : TypeId} {k : Nat} {enc : α → List Value} {v : Value} {xs : List α} (h : Own w base e k enc v xs) :
    (v = .slice none 0 0 ∧ xs = []) ∨ ∃ g cap cur, v = .slice (some ⟨g, 0, none⟩) xs.length cap ∧ base ≤ g ∧ w.heap[g]? = some (.cells cur e (0, 0)) ∧ xs.length ≤ cap ∧ cap ≤ maxLen ∧ cur.size = cap * k ∧ cur.toList.take (xs.length * k) = xs.flatMap enc := by
  rcases h.2 with ⟨h1, h2⟩ | h2
  · exact .inl ⟨h1, List.eq_nil_of_length_eq_zero h2⟩
  · exact .inr h2
/-- The cells of an owned row of ints. -/
theorem Own.holdsI {w : World} {e : TypeId} {g : Nat} {cur : Array Value} {l : List Int} (hh : w.heap[g]? = some (.cells cur e (0, 0))) (ht : cur.toList.take (l.length * 1) = l.flatMap encI) :
    Sort.Holds (Value.int .i64) w g 0 l.toArray := by
  intro j hj
  have hj' : j < l.length := by simpa using hj
  refine ⟨?_, by simp [World.frozen?, hh]⟩
  rw [Nat.zero_add, blk_cell hh j]
  rw [encI_flat, Nat.mul_one] at ht
  have h1 : (cur.toList.take l.length)[j]? = some (.int .i64 l[j]) := by rw [ht]; simp [hj']
  rw [List.getElem?_take_of_lt hj'] at h1
  rw [getElem!_pos _ j hj]
  simpa using h1
theorem putRow_heap {w : World} {g : Nat} {cur : Array Value} {e : TypeId} (hh : w.heap[g]? = some (.cells cur e (0, 0))) (d : Array Int) (n : Nat) (os : Array Obj) :
    (Sort.grow (Sort.putRow (Value.int .i64) (Sort.ahead w n) g 0 d) os).heap[g]? = some (.cells (Sort.putCells (Value.int .i64) 0 d cur) e (0, 0)) := by
  have hlt := lt_of_block hh
  rw [Sort.heap_grow_old _ _ (by simpa using hlt)]
  simp [Sort.putRow, Sort.mapBlock, Array.getElem?_modify, hh, Sort.onCells]
theorem putRow_other {w : World} {g k : Nat} (hk : k < w.heap.size) (hne : k ≠ g) (d : Array Int) (n : Nat) (os : Array Obj) :
    (Sort.grow (Sort.putRow (Value.int .i64) (Sort.ahead w n) g 0 d) os).heap[k]? = w.heap[k]? := by
  rw [Sort.heap_grow_old _ _ (by simpa using hk)]
  simp [Sort.putRow, Sort.mapBlock, Array.getElem?_modify, Ne.symm hne]
theorem putCells_take {cur : Array Value} {d : List Int} (h : d.length ≤ cur.size) : (Sort.putCells (Value.int .i64) 0 d.toArray cur).toList.take d.length = d.map (Value.int .i64) := by
  apply List.ext_getElem?
  intro j
  rw [List.getElem?_take]
  by_cases hj : j < d.length
  · have hc : j < cur.size := by omega
    simp [Sort.putCells, hj, hc]
  · simp [hj]
/-- An owned row over which other ints are laid. -/
theorem Own.relaid {w : World} {base : Nat} {e : TypeId} {g cap : Nat} {cur : Array Value} (hb : base ≤ g) (hh : w.heap[g]? = some (.cells cur e (0, 0))) (hm : cap ≤ maxLen) (hs : cur.size = cap * 1) (d : List Int) (hd : d.length ≤ cap) (m : Nat) (hmd : m ≤ d.length) (n : Nat) (os : Array Obj) :
    Own (Sort.grow (Sort.putRow (Value.int .i64) (Sort.ahead w n) g 0 d.toArray) os) base e 1 encI (.slice (some ⟨g, 0, none⟩) m cap) (d.take m) := by
  have hml : (d.take m).length = m := by simp; omega
  refine ⟨by rw [encI_flat]; simp, .inr ⟨g, cap, _, by rw [hml], hb, putRow_heap hh _ n os, by omega, hm, by simp [Sort.putCells, hs], ?_⟩⟩
  have ht := putCells_take (cur := cur) (d := d) (by omega)
  rw [hml, encI_flat, Nat.mul_one, List.map_take, ← ht, List.take_take, Nat.min_eq_left hmd]
theorem grownBy_putRow {w : World} {g : Nat} (d : Array Int) (n : Nat) (os : Array Obj) : w.grownBy (Sort.grow (Sort.putRow (Value.int .i64) (Sort.ahead w n) g 0 d) os) (some g) :=
  ⟨rfl, rfl, rfl, by simp, fun k hk hne => putRow_other hk (fun e => hne (by rw [e])) d n os⟩
def isort (l : List Int) : List Int := l.mergeSort fun x y => decide (x ≤ y)
theorem isort_len (l : List Int) : (isort l).length = l.length := List.length_mergeSort _
theorem mem_isort {l : List Int} {x : Int} : x ∈ isort l ↔ x ∈ l := List.mem_mergeSort
theorem isort_le (l : List Int) : (isort l).Pairwise (· ≤ ·) := by
  have := List.pairwise_mergeSort (le := fun (x y : Int) => decide (x ≤ y)) (by intro a b c; simp; omega) (by intro a b; simp; omega) l
  exact this.imp (by simp)
theorem isort_perm (l : List Int) : (isort l).Perm l := List.mergeSort_perm _ _
theorem isort_any (l : List Int) (v : Value) (base : Nat) (w : World) (hown : Own w base 3 1 encI v l) (hl : l.length < 4611686018427387904) :
    Calls Try.prog 52 #[v] w fun e w' => e = .returned (.tuple #[]) ∧ Own w' base 3 1 encI v (isort l) ∧ w.grownBy w' v.ownBlock := by
  rcases hown.block with ⟨rfl, rfl⟩ | ⟨g, cap, cur, rfl, hb, hh, hle, hm, hs, ht⟩
  · refine (sh_slices_Sort_int_none none 0 w).mono fun e w' ⟨he, hw⟩ => ?_
    subst hw
    exact ⟨he, by rw [show isort [] = [] by simp [isort]]; exact Own.nil _ _ _ _ _, rfl, rfl, rfl, Nat.le_refl _, fun _ _ _ => rfl⟩
  · refine (sh_slices_Sort_int g 0 cap l w (Own.holdsI hh ht) (lt_of_block hh) hl).mono fun e w' ⟨he, n, os, hw⟩ => ?_
    subst hw
    refine ⟨he, ?_, grownBy_putRow _ n os⟩
    have := Own.relaid hb hh hm hs (isort l) (by rw [isort_len]; exact hle) l.length (by rw [isort_len]; exact Nat.le_refl _) n os
    rw [List.take_of_length_le (by rw [isort_len]; exact Nat.le_refl _)] at this
    exact this
open Go.Lib in
theorem icompact_any (l : List Int) (v : Value) (base : Nat) (w : World) (hown : Own w base 3 1 encI v l) (hl : l.length < 4611686018427387904) :
    Calls Try.prog 53 #[v] w fun e w' => ∃ v', e = .returned v' ∧ Own w' base 3 1 encI v' (Lib.compact l) ∧ w.grownBy w' v.ownBlock ∧ v'.ownBlock = v.ownBlock := by
  have hcl := Lib.compact_length_le l
  rcases hown.block with ⟨rfl, rfl⟩ | ⟨g, cap, cur, rfl, hb, hh, hle, hm, hs, ht⟩
  · refine (sh_slices_Compact_int_empty none 0 w).mono fun e w' ⟨he, hw⟩ => ?_
    subst hw
    exact ⟨_, he, Own.nil _ _ _ _ _, ⟨rfl, rfl, rfl, Nat.le_refl _, fun _ _ _ => rfl⟩, rfl⟩
  · refine (sh_slices_Compact_int g 0 cap l w (Own.holdsI hh ht) (by omega) hle).mono fun e w' ⟨he, n, hw⟩ => ?_
    subst hw
    refine ⟨_, he, ?_, ?_, rfl⟩
    · have := Own.relaid hb hh hm hs (Lib.compact l ++ List.replicate (l.length - (Lib.compact l).length) 0) (by simp; omega) (Lib.compact l).length (by simp) n #[]
      rw [List.take_left] at this
      simpa using this
    · have := grownBy_putRow (w := w) (g := g) (Lib.compact l ++ List.replicate (l.length - (Lib.compact l).length) 0).toArray n #[]
      rw [Sort.grow_empty] at this
      exact this
end Go.Proofs.Ytdocgemfedohdaa
/-! Who is guilty, as numbers that rise (the plain law). -/
namespace Go.Proofs.Ytdocgemfedohdaa
theorem rises_snoc {l : List Int} {x : Int} (h : Rises l) (hx : ∀ y ∈ l, y < x) : Rises (l ++ [x]) := by
  induction l with
  | nil => exact ⟨by simp, trivial⟩
  | cons y l ih =>
    refine ⟨fun z hz => ?_, ih h.2 (fun z hz => hx z (by simp [hz]))⟩
    rcases List.mem_append.1 hz with hz | hz
    · exact h.1 z hz
    · simp only [List.mem_singleton] at hz; subst hz; exact hx y (by simp)
theorem compactUpTo_rises (d : Array Int) (n : Nat) (hs : ∀ i j, i ≤ j → j < n → d[i]! ≤ d[j]!) : ∀ m, m ≤ n → Rises (Lib.compactUpTo d m) ∧ ∀ x, x ∈ Lib.compactUpTo d m ↔ ∃ j, j < m ∧ d[j]! = x
  | 0, _ => ⟨by simp [Lib.compactUpTo, Rises], by simp [Lib.compactUpTo]⟩
  | m + 1, hm => by
    obtain ⟨h1, h2⟩ := compactUpTo_rises d n hs m (by omega)
    rw [Lib.compactUpTo_succ]
    by_cases hk : m = 0 ∨ d[m]! ≠ d[m - 1]!
    · have hkeep : Lib.keeps d m = true := by simpa [Lib.keeps] using hk
      rw [if_pos hkeep]
      refine ⟨rises_snoc h1 (fun y hy => ?_), fun x => ?_⟩
      · obtain ⟨j, hj, rfl⟩ := (h2 y).1 hy
        rcases hk with hk | hk
        · omega
        · have a := hs j (m - 1) (by omega) (by omega)
          have b := hs (m - 1) m (by omega) (by omega)
          omega
      · rw [List.mem_append, List.mem_singleton, h2]
        constructor
        · rintro (⟨j, hj, rfl⟩ | rfl)
          · exact ⟨j, by omega, rfl⟩
          · exact ⟨m, by omega, rfl⟩
        · rintro ⟨j, hj, rfl⟩
          rcases Nat.lt_or_ge j m with h | h
          · exact .inl ⟨j, h, rfl⟩
          · obtain rfl : j = m := by omega
            exact .inr rfl
    · have hkeep : Lib.keeps d m = false := by
        have := hk
        simp only [not_or, Classical.not_not] at this
        exact Lib.keeps_neg (by omega) this.2
      rw [hkeep]
      simp only [Bool.false_eq_true, if_false, List.append_nil]
      refine ⟨h1, fun x => ?_⟩
      rw [h2]
      constructor
      · rintro ⟨j, hj, rfl⟩; exact ⟨j, by omega, rfl⟩
      · rintro ⟨j, hj, rfl⟩
        rcases Nat.lt_or_ge j m with h | h
        · exact ⟨j, h, rfl⟩
        · obtain rfl : j = m := by omega
          simp only [not_or, Classical.not_not] at hk
          exact ⟨j - 1, by omega, hk.2.symm⟩
/-- Sorted, and each once. -/
def setup (l : List Int) : List Int := Lib.compact (isort l)
theorem setup_rises (l : List Int) : Rises (setup l) ∧ ∀ x, x ∈ setup l ↔ x ∈ l := by
  have hp := isort_le l
  have hs : ∀ i j, i ≤ j → j < (isort l).length → (isort l).toArray[i]! ≤ (isort l).toArray[j]! := by
    intro i j hij hj
    rcases Nat.lt_or_ge i j with h | h
    · rw [getElem!_pos _ i (by simp; omega), getElem!_pos _ j (by simpa using hj)]
      have := List.pairwise_iff_getElem.1 hp i j (by omega) hj h
      simpa using this
    · obtain rfl : i = j := by omega
      exact Int.le_refl _
  obtain ⟨h1, h2⟩ := compactUpTo_rises (isort l).toArray (isort l).length hs _ (Nat.le_refl _)
  refine ⟨h1, fun x => (h2 x).trans ?_⟩
  rw [← mem_isort (l := l), List.mem_iff_getElem]
  constructor
  · rintro ⟨j, hj, rfl⟩
    exact ⟨j, hj, by rw [getElem!_pos _ j (by simpa using hj)]; simp⟩
  · rintro ⟨j, hj, rfl⟩
    exact ⟨j, hj, by rw [getElem!_pos _ j (by simpa using hj)]; simp⟩
/-- Those that are found looking back: of the first k. -/
def backs (v : List Lnk) : Nat → List Int
  | 0 => []
  | k + 1 => backs v k ++ (match v[k]? with | some a => if (v.take k).any (fun b => decide (Pair a b)) then [a.frm] else [] | none => [])
theorem mem_backs {v : List Lnk} {f : Int} : ∀ k, k ≤ v.length → (f ∈ backs v k ↔ ∃ i, ∃ h : i < v.length, i < k ∧ (∃ x ∈ v.take i, Pair v[i] x) ∧ v[i].frm = f)
  | 0, _ => by simp [backs]
  | k + 1, hk => by
    have hlt : k < v.length := hk
    rw [backs, List.mem_append, mem_backs k (by omega), List.getElem?_eq_getElem hlt]
    simp only [List.any_eq_true, decide_eq_true_eq]
    constructor
    · rintro (⟨i, h, hi, hx⟩ | h)
      · exact ⟨i, h, by omega, hx⟩
      · by_cases hx : ∃ x ∈ v.take k, Pair v[k] x
        · rw [if_pos hx] at h
          simp only [List.mem_singleton] at h
          exact ⟨k, hlt, by omega, hx, h.symm⟩
        · rw [if_neg hx] at h; cases h
    · rintro ⟨i, h, hi, hx, hf⟩
      rcases Nat.lt_or_ge i k with h' | h'
      · exact .inl ⟨i, h, h', hx, hf⟩
      · obtain rfl : i = k := by omega
        exact .inr (by rw [if_pos hx]; simp [hf])
theorem backs_len (v : List Lnk) : ∀ k, (backs v k).length ≤ k
  | 0 => by simp [backs]
  | k + 1 => by
    have := backs_len v k
    rw [backs, List.length_append]
    cases v[k]? with
    | none => simp; omega
    | some a => simp only; split <;> simp <;> omega
/-- Who is guilty. -/
def guiltyL (v : List Lnk) : List Int := setup (backs v v.length)
theorem guiltyL_is (v : List Lnk) : IsGuilty v (guiltyL v) := by
  obtain ⟨h1, h2⟩ := setup_rises (backs v v.length)
  refine ⟨h1, fun f => (h2 f).trans ?_⟩
  rw [mem_backs _ (Nat.le_refl _), guilt_back]
  constructor
  · rintro ⟨i, h, _, hx⟩; exact ⟨i, h, hx⟩
  · rintro ⟨i, h, hx⟩; exact ⟨i, h, h, hx⟩
theorem guiltyL_len (v : List Lnk) : (guiltyL v).length ≤ v.length := by
  have h1 := backs_len v v.length
  have h2 := Lib.compact_length_le (isort (backs v v.length))
  rw [isort_len] at h2
  unfold guiltyL setup
  omega
theorem guiltyL_eq {v : List Lnk} {g : List Int} (h : IsGuilty v g) : g = guiltyL v := guilty_uniq h (guiltyL_is v)
end Go.Proofs.Ytdocgemfedohdaa
/-! The pure law of arrays of blocks: settled ones, their uniqueness, and how weight that is put on one is carried up. -/
namespace Go.Proofs.Ytdocgemfedohdaa
instance : Inhabited ID := ⟨⟨0, 0⟩⟩
structure Item where
  id : ID
  par : Int
  own : Int
  w : Int
  best : Int
  head : Int
  deriving DecidableEq, Inhabited
def encItem (x : Item) : List Value := [.int .u64 x.id.hi, .int .u64 x.id.lo, .int .i64 x.par, .int .i64 x.own, .int .i64 x.w, .int .i64 x.best, .int .i64 x.head]
def idLess (a b : ID) : Bool := decide (a.hi < b.hi) || decide (a.hi = b.hi) && decide (a.lo < b.lo)
def itm (a : List Item) (i : Nat) : Item := a[i]?.getD default
theorem itm_lt {a : List Item} {i : Nat} (h : i < a.length) : itm a i = a[i] := by simp [itm, h]
theorem itm_set (a : List Item) (i k : Nat) (x : Item) (h : i < a.length) : itm (a.set i x) k = if k = i then x else itm a k := by
  unfold itm
  rw [List.getElem?_set]
  by_cases e : i = k
  · subst e; simp [h]
  · rw [if_neg e, if_neg (fun h => e h.symm)]
theorem itm_app (a : List Item) (x : Item) (k : Nat) (h : k < a.length) : itm (a ++ [x]) k = itm a k := by unfold itm; rw [List.getElem?_append_left h]
theorem itm_new (a : List Item) (x : Item) : itm (a ++ [x]) a.length = x := by simp [itm]
theorem itm_ext {a b : List Item} (hl : a.length = b.length) (h : ∀ i, i < a.length → itm a i = itm b i) : a = b := by
  apply List.ext_getElem hl
  intro i h1 h2
  have := h i h1
  rwa [itm_lt h1, itm_lt h2] at this
/-! Sums. -/
def sumR (f : Nat → Int) : Nat → Int
  | 0 => 0
  | n + 1 => sumR f n + f n
theorem sumR_congr {f g : Nat → Int} {n : Nat} (h : ∀ k, k < n → f k = g k) : sumR f n = sumR g n := by
  induction n with
  | zero => rfl
  | succ n ih => rw [sumR, sumR, ih (fun k hk => h k (by omega)), h n (by omega)]
theorem sumR_add (f g : Nat → Int) (n : Nat) : sumR (fun k => f k + g k) n = sumR f n + sumR g n := by
  induction n with
  | zero => rfl
  | succ n ih => simp only [sumR, ih]; omega
theorem sumR_sub (f g : Nat → Int) (n : Nat) : sumR (fun k => f k - g k) n = sumR f n - sumR g n := by
  induction n with
  | zero => rfl
  | succ n ih => simp only [sumR, ih]; omega
theorem sumR_zero {f : Nat → Int} {n : Nat} (h : ∀ k, k < n → f k = 0) : sumR f n = 0 := by
  induction n with
  | zero => rfl
  | succ n ih => rw [sumR, ih (fun k hk => h k (by omega)), h n (by omega)]; rfl
theorem sumR_one {f : Nat → Int} {n i : Nat} (hi : i < n) (h : ∀ k, k < n → k ≠ i → f k = 0) : sumR f n = f i := by
  induction n with
  | zero => omega
  | succ n ih =>
    rw [sumR]
    by_cases e : i = n
    · subst e; rw [sumR_zero (fun k hk => h k (by omega) (by omega))]; omega
    · rw [ih (by omega) (fun k hk hn => h k (by omega) hn), h n (by omega) (fun e2 => e e2.symm)]; omega
theorem sumR_nonneg {f : Nat → Int} {n : Nat} (h : ∀ k, k < n → 0 ≤ f k) : 0 ≤ sumR f n := by
  induction n with
  | zero => exact Int.le_refl _
  | succ n ih => rw [sumR]; have := ih (fun k hk => h k (by omega)); have := h n (by omega); omega
theorem sumR_mem {f : Nat → Int} {n i : Nat} (h : ∀ k, k < n → 0 ≤ f k) (hi : i < n) : f i ≤ sumR f n := by
  induction n with
  | zero => omega
  | succ n ih =>
    rw [sumR]
    by_cases e : i = n
    · subst e; have := sumR_nonneg (f := f) (n := i) (fun k hk => h k (by omega)); omega
    · have := ih (fun k hk => h k (by omega)) (by omega); have := h n (by omega); omega
theorem sumR_bd {f : Nat → Int} {B : Int} {n : Nat} (h : ∀ k, k < n → f k ≤ B) (_ : 0 ≤ B) : sumR f n ≤ n * B := by
  induction n with
  | zero => simp [sumR]
  | succ n ih => rw [sumR]; have := ih (fun k hk => h k (by omega)); have := h n (by omega); rw [Int.natCast_succ, Int.add_mul]; omega
/-! What a settled array is. -/
def better (x y : Item) : Bool := decide (y.w < x.w) || decide (x.w = y.w) && idLess y.id x.id
def bestTo (a : List Item) (at' : Int) : Nat → Int
  | 0 => -1
  | k + 1 => if (itm a k).par = at' ∧ (bestTo a at' k = -1 ∨ better (itm a k) (itm a (bestTo a at' k).toNat) = true) then (k : Int) else bestTo a at' k
def best (a : List Item) (at' : Int) : Int := bestTo a at' a.length
def wsum (a : List Item) (at' : Int) (n : Nat) : Int := sumR (fun k => if (itm a k).par = at' then (itm a k).w else 0) n
def WEq (a : List Item) (i : Nat) : Prop := (itm a i).w = (itm a i).own + wsum a i a.length
def headOf (a : List Item) (i : Nat) : Int := if best a i = -1 then (i : Int) else (itm a (best a i).toNat).head
def BEq (a : List Item) (i : Nat) : Prop := (itm a i).best = best a i ∧ (itm a i).head = headOf a i
def ParOk (a : List Item) : Prop := ∀ i, i < a.length → -1 ≤ (itm a i).par ∧ (itm a i).par < i
def Settled (a : List Item) : Prop := ∀ i, i < a.length → WEq a i ∧ BEq a i
def SameSk (a b : List Item) : Prop := a.length = b.length ∧ ∀ i, i < a.length → (itm a i).id = (itm b i).id ∧ (itm a i).par = (itm b i).par ∧ (itm a i).own = (itm b i).own
theorem bestTo_spec (a : List Item) (p : Int) (n : Nat) : bestTo a p n = -1 ∨ ∃ j : Nat, j < n ∧ (itm a j).par = p ∧ bestTo a p n = j := by
  induction n with
  | zero => exact .inl rfl
  | succ n ih =>
    rw [bestTo]
    split
    · rename_i h
      exact .inr ⟨n, by omega, h.1, rfl⟩
    · rcases ih with h | ⟨j, h1, h2, h3⟩
      · exact .inl h
      · exact .inr ⟨j, by omega, h2, h3⟩
theorem bestTo_none {a : List Item} {p : Int} {n : Nat} : bestTo a p n = -1 ↔ ∀ k, k < n → (itm a k).par ≠ p := by
  induction n with
  | zero => simp [bestTo]
  | succ n ih =>
    rw [bestTo]
    constructor
    · intro h
      split at h
      · omega
      · rename_i hn
        intro k hk e
        by_cases e2 : k = n
        · subst e2; exact hn ⟨e, .inl h⟩
        · exact ih.1 h k (by omega) e
    · intro h
      rw [if_neg (fun hc => h n (by omega) hc.1)]
      exact ih.2 (fun k hk => h k (by omega))
/-- The best one is told by what stands on p alone. -/
theorem bestTo_congr {a b : List Item} {p : Int} {n : Nat} (hp : ∀ k, k < n → ((itm a k).par = p ↔ (itm b k).par = p)) (hv : ∀ k, k < n → (itm a k).par = p → (itm a k).w = (itm b k).w ∧ (itm a k).id = (itm b k).id) : bestTo a p n = bestTo b p n := by
  induction n with
  | zero => rfl
  | succ n ih =>
    have ih' := ih (fun k hk => hp k (by omega)) (fun k hk => hv k (by omega))
    rw [bestTo, bestTo, ih']
    by_cases h1 : (itm a n).par = p
    · have h2 := (hp n (by omega)).1 h1
      obtain ⟨e1, e2⟩ := hv n (by omega) h1
      have hb : bestTo b p n = -1 ∨ better (itm a n) (itm a (bestTo b p n).toNat) = better (itm b n) (itm b (bestTo b p n).toNat) := by
        rw [← ih']
        rcases bestTo_spec a p n with h | ⟨j, j1, j2, j3⟩
        · exact .inl h
        · right
          obtain ⟨f1, f2⟩ := hv j (by omega) j2
          rw [j3]
          simp only [Int.toNat_natCast, better, e1, e2, f1, f2]
      rcases hb with hb | hb
      · simp [h1, h2, hb]
      · simp [h1, h2, hb]
    · have h2 : ¬ (itm b n).par = p := fun h => h1 ((hp n (by omega)).2 h)
      rw [if_neg (fun h => h1 h.1), if_neg (fun h => h2 h.1)]
theorem wsum_congr {a b : List Item} {p : Int} {n : Nat} (hp : ∀ k, k < n → ((itm a k).par = p ↔ (itm b k).par = p)) (hv : ∀ k, k < n → (itm a k).par = p → (itm a k).w = (itm b k).w) : wsum a p n = wsum b p n := by
  unfold wsum
  apply sumR_congr
  intro k hk
  show (if (itm a k).par = p then (itm a k).w else 0) = if (itm b k).par = p then (itm b k).w else 0
  by_cases h : (itm a k).par = p
  · rw [if_pos h, if_pos ((hp k hk).1 h), hv k hk h]
  · rw [if_neg h, if_neg (fun h2 => h ((hp k hk).2 h2))]
theorem headOf_eq {a b : List Item} {i : Nat} (hb : best a i = best b i) (_ : a.length = b.length) (hh : ∀ k, k < a.length → (itm a k).par = i → (itm a k).head = (itm b k).head) : headOf a i = headOf b i := by
  unfold headOf
  rw [← hb]
  rcases bestTo_spec a i a.length with h | ⟨j, j1, j2, j3⟩
  · have h' : best a i = -1 := h
    rw [if_pos h', if_pos h']
  · have h' : best a i = j := j3
    rw [h', if_neg (by omega), if_neg (by omega)]
    simp only [Int.toNat_natCast]
    exact hh j j1 j2
/-- Two settled arrays of one skeleton are one. -/
theorem settled_uniq {a b : List Item} (hp : ParOk a) (hs : SameSk a b) (ha : Settled a) (hb : Settled b) : a = b := by
  obtain ⟨hl, hs⟩ := hs
  refine itm_ext hl ?_
  have key : ∀ m i, i < a.length → a.length ≤ i + m → itm a i = itm b i := by
    intro m
    induction m with
    | zero => intro i h1 h2; omega
    | succ m ih =>
      intro i h1 h2
      obtain ⟨e1, e2, e3⟩ := hs i h1
      obtain ⟨w1, b1, c1⟩ := ha i h1
      obtain ⟨w2, b2, c2⟩ := hb i (by omega)
      have hch : ∀ k, k < a.length → (itm a k).par = i → itm a k = itm b k := fun k hk hpk => ih k hk (by have := (hp k hk).2; omega)
      have hpi : ∀ k, k < a.length → ((itm a k).par = i ↔ (itm b k).par = i) := fun k hk => by rw [(hs k hk).2.1]
      have hw : wsum a i a.length = wsum b i b.length := by rw [← hl]; exact wsum_congr hpi (fun k hk h => by rw [hch k hk h])
      have hbe : best a i = best b i := by unfold best; rw [← hl]; exact bestTo_congr hpi (fun k hk h => by rw [hch k hk h]; exact ⟨rfl, rfl⟩)
      have hhe : headOf a i = headOf b i := headOf_eq hbe hl (fun k hk h => by rw [hch k hk h])
      unfold WEq at w1 w2
      rw [e3, hw, ← w2] at w1
      rw [hbe, ← b2] at b1
      rw [hhe, ← c2] at c1
      cases hx : itm a i
      cases hy : itm b i
      simp_all
  intro i hi
  exact key a.length i hi (by omega)
/-! What stands ahead of i weighs, together, what all from i on have of their own. -/
theorem cut_sum {a : List Item} (hp : ParOk a) (hw : ∀ i, i < a.length → WEq a i) : ∀ m i, a.length = i + m → sumR (fun k => if i ≤ k ∧ (itm a k).par < i then (itm a k).w else 0) a.length = sumR (fun k => if i ≤ k then (itm a k).own else 0) a.length := by
  intro m
  induction m with
  | zero =>
    intro i h
    rw [sumR_zero (fun k hk => if_neg (by omega)), sumR_zero (fun k hk => if_neg (by omega))]
  | succ m ih =>
    intro i h
    have hi : i < a.length := by omega
    have h1 := ih (i + 1) (by omega)
    have e1 : sumR (fun k => if i ≤ k ∧ (itm a k).par < i then (itm a k).w else 0) a.length = sumR (fun k => if i + 1 ≤ k ∧ (itm a k).par < (i + 1 : Nat) then (itm a k).w else 0) a.length - wsum a i a.length + (itm a i).w := by
      have e2 : (itm a i).w = sumR (fun k => if k = i then (itm a k).w else 0) a.length := by
        rw [sumR_one hi (fun k _ hn => if_neg hn), if_pos rfl]
      rw [e2]
      unfold wsum
      rw [← sumR_sub, ← sumR_add]
      apply sumR_congr
      intro k hk
      have := (hp k hk).2
      by_cases c1 : k = i
      · subst c1
        rw [if_pos ⟨by omega, this⟩, if_neg (by omega), if_neg (by omega), if_pos rfl]; omega
      · by_cases c2 : k < i
        · rw [if_neg (by omega), if_neg (by omega), if_neg (by omega), if_neg c1]; omega
        · by_cases c3 : (itm a k).par = i
          · rw [if_neg (by omega), if_pos (by omega), if_pos c3, if_neg c1]; omega
          · by_cases c4 : (itm a k).par < i
            · rw [if_pos (by omega), if_pos (by omega), if_neg c3, if_neg c1]; omega
            · rw [if_neg (by omega), if_neg (by omega), if_neg c3, if_neg c1]; omega
    have e3 : sumR (fun k => if i ≤ k then (itm a k).own else 0) a.length = sumR (fun k => if i + 1 ≤ k then (itm a k).own else 0) a.length + (itm a i).own := by
      have e2 : (itm a i).own = sumR (fun k => if k = i then (itm a k).own else 0) a.length := by
        rw [sumR_one hi (fun k _ hn => if_neg hn), if_pos rfl]
      rw [e2, ← sumR_add]
      apply sumR_congr
      intro k hk
      by_cases c1 : k = i
      · subst c1; rw [if_pos (by omega), if_neg (by omega), if_pos rfl]; omega
      · by_cases c2 : i + 1 ≤ k
        · rw [if_pos (by omega), if_pos c2, if_neg c1]; omega
        · rw [if_neg (by omega), if_neg c2, if_neg c1]; omega
    have hwi := hw i hi
    unfold WEq at hwi
    rw [e1, h1, e3]
    omega
theorem wnonneg {a : List Item} (hp : ParOk a) (hw : ∀ i, i < a.length → WEq a i) (ho : ∀ i, i < a.length → 0 ≤ (itm a i).own) : ∀ i, i < a.length → 0 ≤ (itm a i).w := by
  have key : ∀ m i, i < a.length → a.length ≤ i + m → 0 ≤ (itm a i).w := by
    intro m
    induction m with
    | zero => intro i h1 h2; omega
    | succ m ih =>
      intro i h1 h2
      rw [hw i h1]
      have := ho i h1
      have : 0 ≤ wsum a i a.length := sumR_nonneg (fun k hk => by
        show 0 ≤ if (itm a k).par = (i : Int) then (itm a k).w else 0
        split
        · rename_i e; exact ih k hk (by have := (hp k hk).2; omega)
        · exact Int.le_refl _)
      omega
  intro i hi
  exact key a.length i hi (by omega)
theorem w_bound {a : List Item} {B : Int} (hp : ParOk a) (hw : ∀ i, i < a.length → WEq a i) (ho : ∀ i, i < a.length → 0 ≤ (itm a i).own ∧ (itm a i).own ≤ B) {i : Nat} (hi : i < a.length) : 0 ≤ (itm a i).w ∧ (itm a i).w ≤ a.length * B := by
  have hn := wnonneg hp hw (fun i hi => (ho i hi).1)
  refine ⟨hn i hi, ?_⟩
  have hB : 0 ≤ B := by have := ho i hi; omega
  have h1 := cut_sum hp hw (a.length - i) i (by omega)
  have h2 := sumR_mem (f := fun k => if i ≤ k ∧ (itm a k).par < i then (itm a k).w else 0) (n := a.length) (i := i) (fun k hk => by
    show 0 ≤ if i ≤ k ∧ (itm a k).par < i then (itm a k).w else 0
    split
    · exact hn k hk
    · exact Int.le_refl _) hi
  have h3 : sumR (fun k => if i ≤ k then (itm a k).own else 0) a.length ≤ a.length * B := sumR_bd (fun k hk => by
    show (if i ≤ k then (itm a k).own else 0) ≤ B
    split
    · exact (ho k hk).2
    · exact hB) hB
  have h4 : (if i ≤ i ∧ (itm a i).par < i then (itm a i).w else 0) = (itm a i).w := if_pos ⟨Nat.le_refl _, (hp i hi).2⟩
  simp only [h4] at h2
  omega
theorem root_sum {a : List Item} (hp : ParOk a) (hw : ∀ i, i < a.length → WEq a i) : wsum a (-1) a.length = sumR (fun k => (itm a k).own) a.length := by
  have h := cut_sum hp hw a.length 0 (by omega)
  rw [show wsum a (-1) a.length = sumR (fun k => if 0 ≤ k ∧ (itm a k).par < (0 : Nat) then (itm a k).w else 0) a.length from sumR_congr (fun k hk => by
    have := (hp k hk).1
    show (if (itm a k).par = -1 then (itm a k).w else 0) = _
    by_cases c : (itm a k).par = -1
    · rw [if_pos c, if_pos (by omega)]
    · rw [if_neg c, if_neg (by omega)]), h]
  exact sumR_congr (fun k hk => if_pos (Nat.zero_le _))
end Go.Proofs.Ytdocgemfedohdaa
