/- HH: several texts in one. -/
import Derived.Test.YtdocgemfedohdaaHG
import Derived.Test.YtdocgemfedohdaaHA
import Derived.Test.YtdocgemfedohdaaHE
/-! The walks of marigoldref08's OnIn, On, All. -/
namespace Go.Proofs.Ytdocgemfedohdaa
open Go.RowKit
theorem wsumTo_false (W : List Int) (k : Nat) : wsumTo W (fun _ => false) k = 0 := by
  induction k with
  | zero => rfl
  | succ k ih => simp [wsumTo, ih]
theorem weightC_nil (c : Cfg) : weightC c [] = 0 := by
  unfold weightC
  split
  · have : (fun i : Nat => decide ((i : Int) ∈ ([] : List Int))) = fun _ => false := by funext i; simp
    rw [this, wsumTo_false]
  · rfl
theorem onC_notree {l : List Blk} (h : ¬ Tree l) (c : Cfg) (vs : List Vote) (id : ID) : onC c l vs id = 0 := by
  have : whoOn l vs id = [] := by
    unfold whoOn
    simp [chain_notree h]
  unfold onC
  rw [this, weightC_nil]
end Go.Proofs.Ytdocgemfedohdaa
/-! More on chains and on what some weigh: plain laws. -/
namespace Go.Proofs.Ytdocgemfedohdaa
theorem tree_ind {l : List Blk} (ht : Tree l) {P : ID → Prop} (h0 : P zid) (hs : ∀ n (hn : n < l.length), P l[n].par → P (nameOf l[n])) : ∀ n (hn : n < l.length), P (nameOf l[n]) := by
  intro n
  induction n using Nat.strongRecOn with
  | ind n ih =>
    intro hn
    apply hs n hn
    rcases (ht n hn).2.2 with h | ⟨_, c, hc, h, _⟩
    · rw [h.1]; exact h0
    · obtain ⟨j, hj, rfl⟩ := List.getElem_of_mem hc
      simp only [List.length_take] at hj
      rw [← h]
      simp only [List.getElem_take]
      exact ih j (by omega) (by omega)
theorem known_or {l : List Blk} (x : ID) : x = zid ∨ (∃ (n : Nat) (hn : n < l.length), nameOf l[n] = x) ∨ (chain l x = [] ∧ x ≠ zid ∧ ∀ b ∈ l, nameOf b ≠ x) := by
  by_cases hx : x = zid
  · exact .inl hx
  · by_cases hb : ∃ b ∈ l, nameOf b = x
    · obtain ⟨b, hb, e⟩ := hb
      obtain ⟨n, hn, rfl⟩ := List.getElem_of_mem hb
      exact .inr (.inl ⟨n, hn, e⟩)
    · have hb' : ∀ b ∈ l, nameOf b ≠ x := fun b h e => hb ⟨b, h, e⟩
      exact .inr (.inr ⟨chain_unknown hx hb', hx, hb'⟩)
theorem chain_ind {l : List Blk} (ht : Tree l) {P : ID → List ID → Prop} (hn : ∀ x, P x []) (h0 : P zid [zid]) (hs : ∀ n (hn : n < l.length), P l[n].par (chain l l[n].par) → P (nameOf l[n]) (nameOf l[n] :: chain l l[n].par)) (x : ID) : P x (chain l x) := by
  rcases known_or (l := l) x with rfl | ⟨n, hlt, rfl⟩ | ⟨h, _⟩
  · rw [chain_zid ht]; exact h0
  · refine tree_ind ht (P := fun x => P x (chain l x)) (by rw [chain_zid ht]; exact h0) (fun n hlt ih => ?_) n hlt
    rw [chain_cons ht hlt]
    exact hs n hlt ih
  · rw [h]; exact hn x
theorem chain_trans {l : List Blk} {x id y : ID} (h1 : id ∈ chain l x) (h2 : y ∈ chain l id) : y ∈ chain l x := by
  by_cases ht : Tree l
  · revert h1 h2
    refine chain_ind ht (P := fun _ ch => id ∈ ch → y ∈ chain l id → y ∈ ch) (fun _ h => by simp at h) ?_ ?_ x
    · intro h1 h2
      simp only [List.mem_singleton] at h1
      subst h1
      rwa [chain_zid ht] at h2
    · intro n hn ih h1 h2
      rcases List.mem_cons.1 h1 with rfl | h1
      · rwa [chain_cons ht hn] at h2
      · exact List.mem_cons_of_mem _ (ih h1 h2)
  · rw [chain_notree ht] at h1; simp at h1
theorem chain_zmem {l : List Blk} {x : ID} (h : chain l x ≠ []) : zid ∈ chain l x := by
  by_cases ht : Tree l
  · revert h
    refine chain_ind ht (P := fun _ ch => ch ≠ [] → zid ∈ ch) (fun _ h => absurd rfl h) (by simp) ?_ x
    intro n hn ih _
    apply List.mem_cons_of_mem
    apply ih
    obtain ⟨r, hr⟩ := chain_head ht (par_mem ht hn)
    rw [hr]; simp
  · rw [chain_notree ht] at h; exact absurd rfl h
theorem chain_self {l : List Blk} {x : ID} (h : chain l x ≠ []) : x ∈ chain l x := by
  by_cases ht : Tree l
  · rcases known_or (l := l) x with rfl | ⟨n, hlt, rfl⟩ | ⟨h', _⟩
    · rw [chain_zid ht]; simp
    · rw [chain_cons ht hlt]; simp
    · exact absurd h' h
  · rw [chain_notree ht] at h; exact absurd rfl h
theorem chain_mem {l : List Blk} {x y : ID} (h : y ∈ chain l x) : chain l y ≠ [] := by
  by_cases ht : Tree l
  · revert h
    refine chain_ind ht (P := fun _ ch => y ∈ ch → chain l y ≠ []) (fun _ h => by simp at h) ?_ ?_ x
    · intro h; simp only [List.mem_singleton] at h; subst h; rw [chain_zid ht]; simp
    · intro n hn ih h
      rcases List.mem_cons.1 h with rfl | h
      · rw [chain_cons ht hn]; simp
      · exact ih h
  · rw [chain_notree ht] at h; simp at h
theorem chain_known {l : List Blk} {x : ID} (h : chain l x ≠ []) : x = zid ∨ ∃ b ∈ l, nameOf b = x := by
  rcases known_or (l := l) x with rfl | ⟨n, hlt, rfl⟩ | ⟨h', _⟩
  · exact .inl rfl
  · exact .inr ⟨_, List.getElem_mem hlt, rfl⟩
  · exact absurd h' h
theorem tree_app {l : List Blk} {b : Blk} (h : Tree (l ++ [b])) : Tree l ∧ Okb l b := by
  have hk : l.length < (l ++ [b]).length := by simp
  have h' : Tree ((l ++ [b]).take (l.length + 1)) := by rw [List.take_of_length_le (by simp)]; exact h
  obtain ⟨h1, h2⟩ := (tree_snoc hk).1 h'
  rw [List.take_left] at h1 h2
  rw [List.getElem_concat_length rfl] at h2
  exact ⟨h1, h2⟩
/-- One block more turns no other chain. -/
theorem chain_snoc {l : List Blk} {b : Blk} (ht : Tree (l ++ [b])) {x : ID} (hx : x ≠ nameOf b) : chain (l ++ [b]) x = chain l x := by
  obtain ⟨htl, hb⟩ := tree_app ht
  have hk : ∀ n (hn : n < l.length), chain (l ++ [b]) (nameOf l[n]) = chain l (nameOf l[n]) := by
    refine tree_ind htl (P := fun x => chain (l ++ [b]) x = chain l x) (by rw [chain_zid ht, chain_zid htl]) (fun n hn ih => ?_)
    have hn' : n < (l ++ [b]).length := by simp; omega
    have e : (l ++ [b])[n] = l[n] := List.getElem_append_left hn
    have := chain_cons ht hn'
    rw [e] at this
    rw [this, chain_cons htl hn, ih]
  rcases known_or (l := l) x with rfl | ⟨n, hlt, rfl⟩ | ⟨h', h0, hn⟩
  · rw [chain_zid ht, chain_zid htl]
  · exact hk n hlt
  · rw [h']
    refine chain_unknown h0 (fun c hc => ?_)
    rcases List.mem_append.1 hc with hc | hc
    · exact hn c hc
    · simp only [List.mem_singleton] at hc; subst hc; exact fun e => hx e.symm
theorem chain_new {l : List Blk} {b : Blk} (ht : Tree (l ++ [b])) (x : ID) : nameOf b ∉ chain l x := by
  obtain ⟨htl, hb⟩ := tree_app ht
  intro h
  rcases chain_known (chain_mem h) with e | ⟨c, hc, e⟩
  · exact hb.1 e
  · exact hb.2.1 c hc e
/-! What some weigh. -/
theorem wsumTo_mono {W : List Int} (h : ∀ x ∈ W, 0 ≤ x ∧ x ≤ 1099511627776) {p q : Nat → Bool} (hpq : ∀ i, p i = true → q i = true) (k : Nat) : wsumTo W p k ≤ wsumTo W q k := by
  induction k with
  | zero => simp [wsumTo]
  | succ k ih =>
    simp only [wsumTo]
    have hx : 0 ≤ W[k]?.getD 0 := by
      cases hk : W[k]? with
      | none => simp
      | some x => exact (h x (List.mem_of_getElem? hk)).1
    have := hpq k
    cases hp : p k <;> cases hq : q k <;> simp_all <;> omega
theorem weightC_mono (c : Cfg) {a b : List Int} (h : ∀ x ∈ a, x ∈ b) : weightC c a ≤ weightC c b := by
  unfold weightC
  split
  · rename_i hm
    exact wsumTo_mono hm.W (fun i hi => by simp only [decide_eq_true_eq] at hi ⊢; exact h _ hi) _
  · omega
theorem weightC_total (c : Cfg) (a : List Int) : weightC c a ≤ totalC c := by
  unfold weightC totalC
  split
  · rename_i hm
    exact wsumTo_mono hm.W (fun _ _ => rfl) _
  · omega
theorem weightC_bd (c : Cfg) (a : List Int) : 0 ≤ weightC c a ∧ weightC c a ≤ 13194139533312 := by
  unfold weightC
  split
  · rename_i hm
    have := wsumTo_bd hm.W (fun i => decide ((i : Int) ∈ a)) c.W.length
    have := hm.len
    omega
  · omega
theorem whoOn_sub {l : List Blk} {vs vs' : List Vote} {id id' : ID} (h : ∀ v ∈ vs, id ∈ chain l v.head → v ∈ vs' ∧ id' ∈ chain l v.head) : ∀ x ∈ whoOn l vs id, x ∈ whoOn l vs' id' := by
  intro x hx
  unfold whoOn at *
  obtain ⟨v, hv, rfl⟩ := List.mem_map.1 hx
  rw [List.mem_filter] at hv
  obtain ⟨h1, h2⟩ := hv
  simp only [decide_eq_true_eq] at h2
  obtain ⟨h3, h4⟩ := h v h1 h2
  exact List.mem_map.2 ⟨v, List.mem_filter.2 ⟨h3, by simpa using h4⟩, rfl⟩
theorem onC_more (c : Cfg) (l : List Blk) (vs : List Vote) (x : Vote) (id : ID) : onC c l vs id ≤ onC c l (vs ++ [x]) id :=
  weightC_mono c (whoOn_sub fun _ hv h => ⟨List.mem_append_left _ hv, h⟩)
theorem onC_all (c : Cfg) (l : List Blk) (vs : List Vote) (id : ID) : onC c l vs id ≤ onC c l vs zid :=
  weightC_mono c (whoOn_sub fun _ hv h => ⟨hv, chain_zmem (fun e => by rw [e] at h; simp at h)⟩)
theorem onC_low (c : Cfg) (l : List Blk) (vs : List Vote) {low id : ID} (h : low ∈ chain l id) : onC c l vs id ≤ onC c l vs low :=
  weightC_mono c (whoOn_sub fun _ hv h' => ⟨hv, chain_trans h' h⟩)
theorem onC_snoc (c : Cfg) {l : List Blk} {b : Blk} (vs : List Vote) (id : ID) (ht : Tree (l ++ [b])) (hv : ∀ v ∈ vs, v.head ≠ nameOf b) : onC c (l ++ [b]) vs id = onC c l vs id := by
  unfold onC
  congr 1
  unfold whoOn
  congr 1
  apply List.filter_congr
  intro v hm
  rw [chain_snoc ht (hv v hm)]
theorem onC_new (c : Cfg) {l : List Blk} {b : Blk} (vs : List Vote) (ht : Tree (l ++ [b])) (hv : ∀ v ∈ vs, v.head ≠ nameOf b) : onC c (l ++ [b]) vs (nameOf b) = 0 := by
  have : whoOn (l ++ [b]) vs (nameOf b) = [] := by
    unfold whoOn
    rw [List.map_eq_nil_iff, List.filter_eq_nil_iff]
    intro v hm
    rw [chain_snoc ht (hv v hm)]
    simpa using chain_new ht v.head
  unfold onC
  rw [this, weightC_nil]
/-! All weigh twice as much. -/
def dbl (c : Cfg) : Cfg := { c with W := c.W.map (2 * ·) }
theorem wsumTo_dbl (W : List Int) (p : Nat → Bool) (k : Nat) : wsumTo (W.map (2 * ·)) p k = 2 * wsumTo W p k := by
  induction k with
  | zero => simp [wsumTo]
  | succ k ih =>
    simp only [wsumTo, ih, List.getElem?_map]
    cases hW : W[k]? <;> cases hp : p k <;> simp <;> omega
theorem onC_dbl {c : Cfg} (hm : MayC c) (hs : ∀ x ∈ c.W, x ≤ 549755813888) (l : List Blk) (vs : List Vote) (id : ID) : onC (dbl c) l vs id = 2 * onC c l vs id := by
  have hd : MayC (dbl c) := by
    obtain ⟨⟨h1, h2, h3⟩, h4⟩ := hm
    refine ⟨⟨by simpa [dbl] using h1, by simpa [dbl] using h2, fun x hx => ?_⟩, h4⟩
    obtain ⟨y, hy, rfl⟩ := List.mem_map.1 hx
    have := h3 y hy
    have := hs y hy
    omega
  unfold onC weightC
  rw [if_pos hd, if_pos hm]
  simp only [dbl, List.length_map]
  exact wsumTo_dbl _ _ _
end Go.Proofs.Ytdocgemfedohdaa
/-! The pure law of arrays of blocks: settled ones, their uniqueness, and how weight that is put on one is carried up. -/
namespace Go.Proofs.Ytdocgemfedohdaa
instance : Inhabited ID := ⟨⟨0, 0⟩⟩
structure Item where
  id : ID
  par : Int
  own : Int
  w : Int
  best : Int
  head : Int
  deriving DecidableEq, Inhabited
def encItem (x : Item) : List Value := [.int .u64 x.id.hi, .int .u64 x.id.lo, .int .i64 x.par, .int .i64 x.own, .int .i64 x.w, .int .i64 x.best, .int .i64 x.head]
def idLess (a b : ID) : Bool := decide (a.hi < b.hi) || decide (a.hi = b.hi) && decide (a.lo < b.lo)
def itm (a : List Item) (i : Nat) : Item := a[i]?.getD default
theorem itm_lt {a : List Item} {i : Nat} (h : i < a.length) : itm a i = a[i] := by simp [itm, h]
theorem itm_set (a : List Item) (i k : Nat) (x : Item) (h : i < a.length) : itm (a.set i x) k = if k = i then x else itm a k := by
  unfold itm
  rw [List.getElem?_set]
  by_cases e : i = k
  · subst e; simp [h]
  · rw [if_neg e, if_neg (fun h => e h.symm)]
theorem itm_app (a : List Item) (x : Item) (k : Nat) (h : k < a.length) : itm (a ++ [x]) k = itm a k := by unfold itm; rw [List.getElem?_append_left h]
theorem itm_new (a : List Item) (x : Item) : itm (a ++ [x]) a.length = x := by simp [itm]
theorem itm_ext {a b : List Item} (hl : a.length = b.length) (h : ∀ i, i < a.length → itm a i = itm b i) : a = b := by
  apply List.ext_getElem hl
  intro i h1 h2
  have := h i h1
  rwa [itm_lt h1, itm_lt h2] at this
/-! Sums. -/
def sumR (f : Nat → Int) : Nat → Int
  | 0 => 0
  | n + 1 => sumR f n + f n
theorem sumR_congr {f g : Nat → Int} {n : Nat} (h : ∀ k, k < n → f k = g k) : sumR f n = sumR g n := by
  induction n with
  | zero => rfl
  | succ n ih => rw [sumR, sumR, ih (fun k hk => h k (by omega)), h n (by omega)]
theorem sumR_add (f g : Nat → Int) (n : Nat) : sumR (fun k => f k + g k) n = sumR f n + sumR g n := by
  induction n with
  | zero => rfl
  | succ n ih => simp only [sumR, ih]; omega
theorem sumR_sub (f g : Nat → Int) (n : Nat) : sumR (fun k => f k - g k) n = sumR f n - sumR g n := by
  induction n with
  | zero => rfl
  | succ n ih => simp only [sumR, ih]; omega
theorem sumR_zero {f : Nat → Int} {n : Nat} (h : ∀ k, k < n → f k = 0) : sumR f n = 0 := by
  induction n with
  | zero => rfl
  | succ n ih => rw [sumR, ih (fun k hk => h k (by omega)), h n (by omega)]; rfl
theorem sumR_one {f : Nat → Int} {n i : Nat} (hi : i < n) (h : ∀ k, k < n → k ≠ i → f k = 0) : sumR f n = f i := by
  induction n with
  | zero => omega
  | succ n ih =>
    rw [sumR]
    by_cases e : i = n
    · subst e; rw [sumR_zero (fun k hk => h k (by omega) (by omega))]; omega
    · rw [ih (by omega) (fun k hk hn => h k (by omega) hn), h n (by omega) (fun e2 => e e2.symm)]; omega
theorem sumR_nonneg {f : Nat → Int} {n : Nat} (h : ∀ k, k < n → 0 ≤ f k) : 0 ≤ sumR f n := by
  induction n with
  | zero => exact Int.le_refl _
  | succ n ih => rw [sumR]; have := ih (fun k hk => h k (by omega)); have := h n (by omega); omega
theorem sumR_mem {f : Nat → Int} {n i : Nat} (h : ∀ k, k < n → 0 ≤ f k) (hi : i < n) : f i ≤ sumR f n := by
  induction n with
  | zero => omega
  | succ n ih =>
    rw [sumR]
    by_cases e : i = n
    · subst e; have := sumR_nonneg (f := f) (n := i) (fun k hk => h k (by omega)); omega
    · have := ih (fun k hk => h k (by omega)) (by omega); have := h n (by omega); omega
theorem sumR_bd {f : Nat → Int} {B : Int} {n : Nat} (h : ∀ k, k < n → f k ≤ B) (_ : 0 ≤ B) : sumR f n ≤ n * B := by
  induction n with
  | zero => simp [sumR]
  | succ n ih => rw [sumR]; have := ih (fun k hk => h k (by omega)); have := h n (by omega); rw [Int.natCast_succ, Int.add_mul]; omega
/-! What a settled array is. -/
def better (x y : Item) : Bool := decide (y.w < x.w) || decide (x.w = y.w) && idLess y.id x.id
def bestTo (a : List Item) (at' : Int) : Nat → Int
  | 0 => -1
  | k + 1 => if (itm a k).par = at' ∧ (bestTo a at' k = -1 ∨ better (itm a k) (itm a (bestTo a at' k).toNat) = true) then (k : Int) else bestTo a at' k
def best (a : List Item) (at' : Int) : Int := bestTo a at' a.length
def wsum (a : List Item) (at' : Int) (n : Nat) : Int := sumR (fun k => if (itm a k).par = at' then (itm a k).w else 0) n
def WEq (a : List Item) (i : Nat) : Prop := (itm a i).w = (itm a i).own + wsum a i a.length
def headOf (a : List Item) (i : Nat) : Int := if best a i = -1 then (i : Int) else (itm a (best a i).toNat).head
def BEq (a : List Item) (i : Nat) : Prop := (itm a i).best = best a i ∧ (itm a i).head = headOf a i
def ParOk (a : List Item) : Prop := ∀ i, i < a.length → -1 ≤ (itm a i).par ∧ (itm a i).par < i
def Settled (a : List Item) : Prop := ∀ i, i < a.length → WEq a i ∧ BEq a i
def SameSk (a b : List Item) : Prop := a.length = b.length ∧ ∀ i, i < a.length → (itm a i).id = (itm b i).id ∧ (itm a i).par = (itm b i).par ∧ (itm a i).own = (itm b i).own
theorem bestTo_spec (a : List Item) (p : Int) (n : Nat) : bestTo a p n = -1 ∨ ∃ j : Nat, j < n ∧ (itm a j).par = p ∧ bestTo a p n = j := by
  induction n with
  | zero => exact .inl rfl
  | succ n ih =>
    rw [bestTo]
    split
    · rename_i h
      exact .inr ⟨n, by omega, h.1, rfl⟩
    · rcases ih with h | ⟨j, h1, h2, h3⟩
      · exact .inl h
      · exact .inr ⟨j, by omega, h2, h3⟩
theorem bestTo_none {a : List Item} {p : Int} {n : Nat} : bestTo a p n = -1 ↔ ∀ k, k < n → (itm a k).par ≠ p := by
  induction n with
  | zero => simp [bestTo]
  | succ n ih =>
    rw [bestTo]
    constructor
    · intro h
      split at h
      · omega
      · rename_i hn
        intro k hk e
        by_cases e2 : k = n
        · subst e2; exact hn ⟨e, .inl h⟩
        · exact ih.1 h k (by omega) e
    · intro h
      rw [if_neg (fun hc => h n (by omega) hc.1)]
      exact ih.2 (fun k hk => h k (by omega))
/-- The best one is told by what stands on p alone. -/
theorem bestTo_congr {a b : List Item} {p : Int} {n : Nat} (hp : ∀ k, k < n → ((itm a k).par = p ↔ (itm b k).par = p)) (hv : ∀ k, k < n → (itm a k).par = p → (itm a k).w = (itm b k).w ∧ (itm a k).id = (itm b k).id) : bestTo a p n = bestTo b p n := by
  induction n with
  | zero => rfl
  | succ n ih =>
    have ih' := ih (fun k hk => hp k (by omega)) (fun k hk => hv k (by omega))
    rw [bestTo, bestTo, ih']
    by_cases h1 : (itm a n).par = p
    · have h2 := (hp n (by omega)).1 h1
      obtain ⟨e1, e2⟩ := hv n (by omega) h1
      have hb : bestTo b p n = -1 ∨ better (itm a n) (itm a (bestTo b p n).toNat) = better (itm b n) (itm b (bestTo b p n).toNat) := by
        rw [← ih']
        rcases bestTo_spec a p n with h | ⟨j, j1, j2, j3⟩
        · exact .inl h
        · right
          obtain ⟨f1, f2⟩ := hv j (by omega) j2
          rw [j3]
          simp only [Int.toNat_natCast, better, e1, e2, f1, f2]
      rcases hb with hb | hb
      · simp [h1, h2, hb]
      · simp [h1, h2, hb]
    · have h2 : ¬ (itm b n).par = p := fun h => h1 ((hp n (by omega)).2 h)
      rw [if_neg (fun h => h1 h.1), if_neg (fun h => h2 h.1)]
theorem wsum_congr {a b : List Item} {p : Int} {n : Nat} (hp : ∀ k, k < n → ((itm a k).par = p ↔ (itm b k).par = p)) (hv : ∀ k, k < n → (itm a k).par = p → (itm a k).w = (itm b k).w) : wsum a p n = wsum b p n := by
  unfold wsum
  apply sumR_congr
  intro k hk
  show (if (itm a k).par = p then (itm a k).w else 0) = if (itm b k).par = p then (itm b k).w else 0
  by_cases h : (itm a k).par = p
  · rw [if_pos h, if_pos ((hp k hk).1 h), hv k hk h]
  · rw [if_neg h, if_neg (fun h2 => h ((hp k hk).2 h2))]
theorem headOf_eq {a b : List Item} {i : Nat} (hb : best a i = best b i) (_ : a.length = b.length) (hh : ∀ k, k < a.length → (itm a k).par = i → (itm a k).head = (itm b k).head) : headOf a i = headOf b i := by
  unfold headOf
  rw [← hb]
  rcases bestTo_spec a i a.length with h | ⟨j, j1, j2, j3⟩
  · have h' : best a i = -1 := h
    rw [if_pos h', if_pos h']
  · have h' : best a i = j := j3
    rw [h', if_neg (by omega), if_neg (by omega)]
    simp only [Int.toNat_natCast]
    exact hh j j1 j2
/-- Two settled arrays of one skeleton are one. -/
theorem settled_uniq {a b : List Item} (hp : ParOk a) (hs : SameSk a b) (ha : Settled a) (hb : Settled b) : a = b := by
  obtain ⟨hl, hs⟩ := hs
  refine itm_ext hl ?_
  have key : ∀ m i, i < a.length → a.length ≤ i + m → itm a i = itm b i := by
    intro m
    induction m with
    | zero => intro i h1 h2; omega
    | succ m ih =>
      intro i h1 h2
      obtain ⟨e1, e2, e3⟩ := hs i h1
      obtain ⟨w1, b1, c1⟩ := ha i h1
      obtain ⟨w2, b2, c2⟩ := hb i (by omega)
      have hch : ∀ k, k < a.length → (itm a k).par = i → itm a k = itm b k := fun k hk hpk => ih k hk (by have := (hp k hk).2; omega)
      have hpi : ∀ k, k < a.length → ((itm a k).par = i ↔ (itm b k).par = i) := fun k hk => by rw [(hs k hk).2.1]
      have hw : wsum a i a.length = wsum b i b.length := by rw [← hl]; exact wsum_congr hpi (fun k hk h => by rw [hch k hk h])
      have hbe : best a i = best b i := by unfold best; rw [← hl]; exact bestTo_congr hpi (fun k hk h => by rw [hch k hk h]; exact ⟨rfl, rfl⟩)
      have hhe : headOf a i = headOf b i := headOf_eq hbe hl (fun k hk h => by rw [hch k hk h])
      unfold WEq at w1 w2
      rw [e3, hw, ← w2] at w1
      rw [hbe, ← b2] at b1
      rw [hhe, ← c2] at c1
      cases hx : itm a i
      cases hy : itm b i
      simp_all
  intro i hi
  exact key a.length i hi (by omega)
/-! What stands ahead of i weighs, together, what all from i on have of their own. -/
theorem cut_sum {a : List Item} (hp : ParOk a) (hw : ∀ i, i < a.length → WEq a i) : ∀ m i, a.length = i + m → sumR (fun k => if i ≤ k ∧ (itm a k).par < i then (itm a k).w else 0) a.length = sumR (fun k => if i ≤ k then (itm a k).own else 0) a.length := by
  intro m
  induction m with
  | zero =>
    intro i h
    rw [sumR_zero (fun k hk => if_neg (by omega)), sumR_zero (fun k hk => if_neg (by omega))]
  | succ m ih =>
    intro i h
    have hi : i < a.length := by omega
    have h1 := ih (i + 1) (by omega)
    have e1 : sumR (fun k => if i ≤ k ∧ (itm a k).par < i then (itm a k).w else 0) a.length = sumR (fun k => if i + 1 ≤ k ∧ (itm a k).par < (i + 1 : Nat) then (itm a k).w else 0) a.length - wsum a i a.length + (itm a i).w := by
      have e2 : (itm a i).w = sumR (fun k => if k = i then (itm a k).w else 0) a.length := by
        rw [sumR_one hi (fun k _ hn => if_neg hn), if_pos rfl]
      rw [e2]
      unfold wsum
      rw [← sumR_sub, ← sumR_add]
      apply sumR_congr
      intro k hk
      have := (hp k hk).2
      by_cases c1 : k = i
      · subst c1
        rw [if_pos ⟨by omega, this⟩, if_neg (by omega), if_neg (by omega), if_pos rfl]; omega
      · by_cases c2 : k < i
        · rw [if_neg (by omega), if_neg (by omega), if_neg (by omega), if_neg c1]; omega
        · by_cases c3 : (itm a k).par = i
          · rw [if_neg (by omega), if_pos (by omega), if_pos c3, if_neg c1]; omega
          · by_cases c4 : (itm a k).par < i
            · rw [if_pos (by omega), if_pos (by omega), if_neg c3, if_neg c1]; omega
            · rw [if_neg (by omega), if_neg (by omega), if_neg c3, if_neg c1]; omega
    have e3 : sumR (fun k => if i ≤ k then (itm a k).own else 0) a.length = sumR (fun k => if i + 1 ≤ k then (itm a k).own else 0) a.length + (itm a i).own := by
      have e2 : (itm a i).own = sumR (fun k => if k = i then (itm a k).own else 0) a.length := by
        rw [sumR_one hi (fun k _ hn => if_neg hn), if_pos rfl]
      rw [e2, ← sumR_add]
      apply sumR_congr
      intro k hk
      by_cases c1 : k = i
      · subst c1; rw [if_pos (by omega), if_neg (by omega), if_pos rfl]; omega
      · by_cases c2 : i + 1 ≤ k
        · rw [if_pos (by omega), if_pos c2, if_neg c1]; omega
        · rw [if_neg (by omega), if_neg c2, if_neg c1]; omega
    have hwi := hw i hi
    unfold WEq at hwi
    rw [e1, h1, e3]
    omega
theorem wnonneg {a : List Item} (hp : ParOk a) (hw : ∀ i, i < a.length → WEq a i) (ho : ∀ i, i < a.length → 0 ≤ (itm a i).own) : ∀ i, i < a.length → 0 ≤ (itm a i).w := by
  have key : ∀ m i, i < a.length → a.length ≤ i + m → 0 ≤ (itm a i).w := by
    intro m
    induction m with
    | zero => intro i h1 h2; omega
    | succ m ih =>
      intro i h1 h2
      rw [hw i h1]
      have := ho i h1
      have : 0 ≤ wsum a i a.length := sumR_nonneg (fun k hk => by
        show 0 ≤ if (itm a k).par = (i : Int) then (itm a k).w else 0
        split
        · rename_i e; exact ih k hk (by have := (hp k hk).2; omega)
        · exact Int.le_refl _)
      omega
  intro i hi
  exact key a.length i hi (by omega)
theorem w_bound {a : List Item} {B : Int} (hp : ParOk a) (hw : ∀ i, i < a.length → WEq a i) (ho : ∀ i, i < a.length → 0 ≤ (itm a i).own ∧ (itm a i).own ≤ B) {i : Nat} (hi : i < a.length) : 0 ≤ (itm a i).w ∧ (itm a i).w ≤ a.length * B := by
  have hn := wnonneg hp hw (fun i hi => (ho i hi).1)
  refine ⟨hn i hi, ?_⟩
  have hB : 0 ≤ B := by have := ho i hi; omega
  have h1 := cut_sum hp hw (a.length - i) i (by omega)
  have h2 := sumR_mem (f := fun k => if i ≤ k ∧ (itm a k).par < i then (itm a k).w else 0) (n := a.length) (i := i) (fun k hk => by
    show 0 ≤ if i ≤ k ∧ (itm a k).par < i then (itm a k).w else 0
    split
    · exact hn k hk
    · exact Int.le_refl _) hi
  have h3 : sumR (fun k => if i ≤ k then (itm a k).own else 0) a.length ≤ a.length * B := sumR_bd (fun k hk => by
    show (if i ≤ k then (itm a k).own else 0) ≤ B
    split
    · exact (ho k hk).2
    · exact hB) hB
  have h4 : (if i ≤ i ∧ (itm a i).par < i then (itm a i).w else 0) = (itm a i).w := if_pos ⟨Nat.le_refl _, (hp i hi).2⟩
  simp only [h4] at h2
  omega
theorem root_sum {a : List Item} (hp : ParOk a) (hw : ∀ i, i < a.length → WEq a i) : wsum a (-1) a.length = sumR (fun k => (itm a k).own) a.length := by
  have h := cut_sum hp hw a.length 0 (by omega)
  rw [show wsum a (-1) a.length = sumR (fun k => if 0 ≤ k ∧ (itm a k).par < (0 : Nat) then (itm a k).w else 0) a.length from sumR_congr (fun k hk => by
    have := (hp k hk).1
    show (if (itm a k).par = -1 then (itm a k).w else 0) = _
    by_cases c : (itm a k).par = -1
    · rw [if_pos c, if_pos (by omega)]
    · rw [if_neg c, if_neg (by omega)]), h]
  exact sumR_congr (fun k hk => if_pos (Nat.zero_le _))
end Go.Proofs.Ytdocgemfedohdaa
/-! What is justified, and final (the plain law). -/
namespace Go.Proofs.Ytdocgemfedohdaa
def zchk : Chk := ⟨0, ⟨0, 0⟩⟩
structure Way where
  src : Chk
  tgt : Chk
  deriving DecidableEq
def wayOf (x : Lnk) : Way := ⟨x.src, x.tgt⟩
/-- A link that may be. -/
def MayL (c : Cfg) (l : List Blk) (x : Lnk) : Prop :=
  MayC c ∧ 0 ≤ x.frm ∧ x.frm < c.W.length ∧ 0 ≤ x.src.epoch ∧ x.src.epoch < x.tgt.epoch ∧ x.tgt.epoch ≤ 1048576 ∧ x.src.root ∈ chain l x.tgt.root
instance (c : Cfg) (l : List Blk) (x : Lnk) : Decidable (MayL c l x) := by unfold MayL; exact inferInstance
/-- Who have a link that may be, of that way. -/
def whoW (c : Cfg) (l : List Blk) (v : List Lnk) (p : Way) : List Int := (v.filter fun x => decide (MayL c l x) && decide (wayOf x = p)).map (·.frm)
def StrongW (c : Cfg) (l : List Blk) (v : List Lnk) (p : Way) : Prop := whoW c l v p ≠ [] ∧ 2 * totalC c ≤ 3 * weightC c (whoW c l v p)
instance (c : Cfg) (l : List Blk) (v : List Lnk) (p : Way) : Decidable (StrongW c l v p) := by unfold StrongW; exact inferInstance
/-- What is come to from the first one. -/
inductive ComeTo (S : Way → Prop) : Chk → Prop
  | zero : ComeTo S zchk
  | step {p : Way} : ComeTo S p.src → S p → ComeTo S p.tgt
def JustC (c : Cfg) (l : List Blk) (v : List Lnk) (x : Chk) : Prop := ComeTo (StrongW c l v) x
/-- A way that makes where it begins final. -/
def EndsW (l : List Blk) (J : Chk → Prop) (p : Way) : Prop :=
  p.tgt.epoch = p.src.epoch + 1 ∨ (p.tgt.epoch = p.src.epoch + 2 ∧ ∃ m, J m ∧ m.epoch = p.src.epoch + 1 ∧ p.src.root ∈ chain l m.root ∧ m.root ∈ chain l p.tgt.root)
def FinalC (c : Cfg) (l : List Blk) (v : List Lnk) (x : Chk) : Prop :=
  x = zchk ∨ (JustC c l v x ∧ ∃ t, StrongW c l v ⟨x, t⟩ ∧ EndsW l (JustC c l v) ⟨x, t⟩)
/-! ## The order -/
def ltC (a b : Chk) : Bool := decide (a.epoch < b.epoch) || decide (a.epoch = b.epoch) && idLess a.root b.root
theorem idLess_iff {a b : ID} : idLess a b = true ↔ a.hi < b.hi ∨ (a.hi = b.hi ∧ a.lo < b.lo) := by unfold idLess; simp
theorem ltC_iff {a b : Chk} : ltC a b = true ↔ a.epoch < b.epoch ∨ (a.epoch = b.epoch ∧ (a.root.hi < b.root.hi ∨ (a.root.hi = b.root.hi ∧ a.root.lo < b.root.lo))) := by
  unfold ltC
  simp [idLess_iff]
theorem chk_ext {a b : Chk} (h1 : a.epoch = b.epoch) (h2 : a.root.hi = b.root.hi) (h3 : a.root.lo = b.root.lo) : a = b := by
  obtain ⟨e1, ⟨x1, y1⟩⟩ := a
  obtain ⟨e2, ⟨x2, y2⟩⟩ := b
  simp at h1 h2 h3
  subst h1 h2 h3
  rfl
theorem ltC_irrefl (a : Chk) : ltC a a = false := by
  cases h : ltC a a with
  | false => rfl
  | true => rw [ltC_iff] at h; omega
theorem ltC_trans {a b d : Chk} (h1 : ltC a b = true) (h2 : ltC b d = true) : ltC a d = true := by
  rw [ltC_iff] at *
  omega
theorem ltC_asymm {a b : Chk} (h1 : ltC a b = true) : ltC b a = false := by
  cases h : ltC b a with
  | false => rfl
  | true => rw [ltC_iff] at *; omega
theorem ltC_total {a b : Chk} (h1 : ltC a b = false) (h2 : ltC b a = false) : a = b := by
  have h1' : ¬ ltC a b = true := by simp [h1]
  have h2' : ¬ ltC b a = true := by simp [h2]
  rw [ltC_iff] at h1' h2'
  exact chk_ext (by omega) (by omega) (by omega)
def SortedC (g : List Chk) : Prop := g.Pairwise fun a b => ltC a b = true
theorem sortedC_uniq : ∀ {g h : List Chk}, SortedC g → SortedC h → (∀ x, x ∈ g ↔ x ∈ h) → g = h
  | [], [], _, _, _ => rfl
  | [], y :: ys, _, _, e => by have := (e y).2 (by simp); simp at this
  | x :: xs, [], _, _, e => by have := (e x).1 (by simp); simp at this
  | x :: xs, y :: ys, hg, hh, e => by
    unfold SortedC at *
    rw [List.pairwise_cons] at hg hh
    have hxy : x = y := by
      have h1 := (e x).1 (by simp)
      have h2 := (e y).2 (by simp)
      simp only [List.mem_cons] at h1 h2
      rcases h1 with h1 | h1
      · exact h1
      · rcases h2 with h2 | h2
        · exact h2.symm
        · have a1 := hh.1 x h1
          have a2 := hg.1 y h2
          rw [ltC_asymm a1] at a2
          cases a2
    subst hxy
    congr 1
    refine sortedC_uniq hg.2 hh.2 (fun f => ?_)
    constructor
    · intro hf
      have := (e f).1 (by simp [hf])
      simp only [List.mem_cons] at this
      rcases this with h | h
      · subst h
        have := hg.1 f hf
        rw [ltC_irrefl] at this
        cases this
      · exact h
    · intro hf
      have := (e f).2 (by simp [hf])
      simp only [List.mem_cons] at this
      rcases this with h | h
      · subst h
        have := hh.1 f hf
        rw [ltC_irrefl] at this
        cases this
      · exact h
def insC (x : Chk) : List Chk → List Chk
  | [] => [x]
  | y :: ys => if ltC x y = true then x :: y :: ys else if x = y then y :: ys else y :: insC x ys
theorem mem_insC {x y : Chk} : ∀ {l : List Chk}, y ∈ insC x l ↔ y = x ∨ y ∈ l
  | [] => by simp [insC]
  | z :: zs => by
    unfold insC
    split
    · simp
    · split
      · rename_i h; subst h; simp
      · simp only [List.mem_cons, mem_insC (l := zs)]
        constructor
        · rintro (h | h | h) <;> simp [h]
        · rintro (h | h | h) <;> simp [h]
theorem sorted_insC {x : Chk} : ∀ {l : List Chk}, SortedC l → SortedC (insC x l)
  | [], _ => by simp [insC, SortedC]
  | z :: zs, h => by
    unfold SortedC at *
    have hz := List.pairwise_cons.1 h
    unfold insC
    split
    · rename_i hlt
      refine List.pairwise_cons.2 ⟨fun y hy => ?_, h⟩
      rcases List.mem_cons.1 hy with rfl | hy
      · exact hlt
      · exact ltC_trans hlt (hz.1 y hy)
    · split
      · exact h
      · rename_i h1 h2
        refine List.pairwise_cons.2 ⟨fun y hy => ?_, sorted_insC hz.2⟩
        rcases mem_insC.1 hy with rfl | hy
        · have h1' : ltC y z = false := by simpa using h1
          cases h3 : ltC z y with
          | true => rfl
          | false => exact absurd (ltC_total h1' h3) h2
        · exact hz.1 y hy
def sortC (l : List Chk) : List Chk := l.foldr insC []
theorem mem_sortC {x : Chk} : ∀ {l : List Chk}, x ∈ sortC l ↔ x ∈ l
  | [] => by simp [sortC]
  | y :: ys => by
    show x ∈ insC y (sortC ys) ↔ _
    rw [mem_insC, mem_sortC, List.mem_cons]
theorem sorted_sortC : ∀ (l : List Chk), SortedC (sortC l)
  | [] => List.Pairwise.nil
  | _ :: ys => sorted_insC (sorted_sortC ys)
theorem sortC_eq {l g : List Chk} (h : SortedC g) (hm : ∀ x, x ∈ g ↔ x ∈ l) : g = sortC l := sortedC_uniq h (sorted_sortC l) fun x => (hm x).trans mem_sortC.symm
theorem insC_len (x : Chk) : ∀ l : List Chk, (insC x l).length ≤ l.length + 1
  | [] => by simp [insC]
  | y :: ys => by
    unfold insC
    have := insC_len x ys
    split
    · simp
    · split
      · simp
      · simp; omega
theorem sortC_len : ∀ l : List Chk, (sortC l).length ≤ l.length
  | [] => by simp [sortC]
  | y :: ys => by
    show (insC y (sortC ys)).length ≤ _
    have h1 := insC_len y (sortC ys)
    have h2 := sortC_len ys
    simp
    omega
/-! ## The lists -/
open Classical in
noncomputable def setL (P : Chk → Prop) (u : List Chk) : List Chk := sortC (u.filter fun x => decide (P x))
theorem mem_setL {P : Chk → Prop} {u : List Chk} {x : Chk} : x ∈ setL P u ↔ x ∈ u ∧ P x := by
  unfold setL
  rw [mem_sortC, List.mem_filter]
  simp
theorem sorted_setL (P : Chk → Prop) (u : List Chk) : SortedC (setL P u) := sorted_sortC _
theorem setL_len (P : Chk → Prop) (u : List Chk) : (setL P u).length ≤ u.length := Nat.le_trans (sortC_len _) (List.length_filter_le _ _)
theorem setL_eq {P : Chk → Prop} {u g : List Chk} (hs : SortedC g) (hu : ∀ x, P x → x ∈ u) (hm : ∀ x, x ∈ g ↔ P x) : g = setL P u :=
  sortedC_uniq hs (sorted_setL P u) fun x => by
    rw [hm x, mem_setL]
    exact ⟨fun h => ⟨hu x h, h⟩, fun h => h.2⟩
def univC (v : List Lnk) : List Chk := zchk :: v.map (·.tgt)
theorem mem_whoW {c : Cfg} {l : List Blk} {v : List Lnk} {p : Way} {i : Int} : i ∈ whoW c l v p ↔ ∃ x ∈ v, MayL c l x ∧ wayOf x = p ∧ x.frm = i := by
  unfold whoW
  simp only [List.mem_map, List.mem_filter, Bool.and_eq_true, decide_eq_true_eq]
  constructor
  · rintro ⟨x, ⟨h1, h2, h3⟩, h4⟩; exact ⟨x, h1, h2, h3, h4⟩
  · rintro ⟨x, h1, h2, h3, h4⟩; exact ⟨x, ⟨h1, h2, h3⟩, h4⟩
/-- A link that may be stands behind what is strong. -/
theorem strong_link {c : Cfg} {l : List Blk} {v : List Lnk} {p : Way} (h : StrongW c l v p) : ∃ x ∈ v, MayL c l x ∧ wayOf x = p := by
  obtain ⟨h1, _⟩ := h
  cases hw : whoW c l v p with
  | nil => exact absurd hw h1
  | cons i r =>
    obtain ⟨x, h2, h3, h4, _⟩ := mem_whoW.1 (show i ∈ whoW c l v p by rw [hw]; simp)
    exact ⟨x, h2, h3, h4⟩
structure WayOk (l : List Blk) (p : Way) : Prop where
  lo : 0 ≤ p.src.epoch
  lt : p.src.epoch < p.tgt.epoch
  hi : p.tgt.epoch ≤ 1048576
  under : p.src.root ∈ chain l p.tgt.root
theorem strong_ok {c : Cfg} {l : List Blk} {v : List Lnk} {p : Way} (h : StrongW c l v p) : WayOk l p := by
  obtain ⟨x, _, ⟨_, _, _, h3, h4, h5, h6⟩, rfl⟩ := strong_link h
  exact ⟨h3, h4, h5, h6⟩
theorem strong_tgt {c : Cfg} {l : List Blk} {v : List Lnk} {p : Way} (h : StrongW c l v p) : p.tgt ∈ univC v := by
  obtain ⟨x, h1, _, rfl⟩ := strong_link h
  unfold univC wayOf
  simp only [List.mem_cons, List.mem_map]
  exact .inr ⟨x, h1, rfl⟩
theorem just_univ {c : Cfg} {l : List Blk} {v : List Lnk} {x : Chk} (h : JustC c l v x) : x ∈ univC v := by
  cases h with
  | zero => simp [univC]
  | step _ h => exact strong_tgt h
theorem final_just {c : Cfg} {l : List Blk} {v : List Lnk} {x : Chk} (h : FinalC c l v x) : JustC c l v x := by
  rcases h with rfl | h
  · exact .zero
  · exact h.1
open Classical in
noncomputable def justL (c : Cfg) (l : List Blk) (v : List Lnk) : List Chk := if MayC c ∧ Tree l then setL (JustC c l v) (univC v) else []
open Classical in
noncomputable def finalL (c : Cfg) (l : List Blk) (v : List Lnk) : List Chk := if MayC c ∧ Tree l then setL (FinalC c l v) (univC v) else []
theorem justL_no {c : Cfg} {l : List Blk} (h : ¬ (MayC c ∧ Tree l)) (v : List Lnk) : justL c l v = [] := if_neg h
theorem finalL_no {c : Cfg} {l : List Blk} (h : ¬ (MayC c ∧ Tree l)) (v : List Lnk) : finalL c l v = [] := if_neg h
theorem mem_justL {c : Cfg} {l : List Blk} (h : MayC c ∧ Tree l) {v : List Lnk} {x : Chk} : x ∈ justL c l v ↔ JustC c l v x := by
  unfold justL
  rw [if_pos h, mem_setL]
  exact ⟨fun h => h.2, fun h => ⟨just_univ h, h⟩⟩
theorem mem_finalL {c : Cfg} {l : List Blk} (h : MayC c ∧ Tree l) {v : List Lnk} {x : Chk} : x ∈ finalL c l v ↔ FinalC c l v x := by
  unfold finalL
  rw [if_pos h, mem_setL]
  exact ⟨fun h => h.2, fun h => ⟨just_univ (final_just h), h⟩⟩
theorem sorted_justL (c : Cfg) (l : List Blk) (v : List Lnk) : SortedC (justL c l v) := by
  unfold justL
  split
  · exact sorted_setL _ _
  · exact List.Pairwise.nil
theorem sorted_finalL (c : Cfg) (l : List Blk) (v : List Lnk) : SortedC (finalL c l v) := by
  unfold finalL
  split
  · exact sorted_setL _ _
  · exact List.Pairwise.nil
theorem justL_len (c : Cfg) (l : List Blk) (v : List Lnk) : (justL c l v).length ≤ v.length + 1 := by
  unfold justL
  split
  · have := setL_len (JustC c l v) (univC v); simpa [univC] using this
  · simp
theorem finalL_len (c : Cfg) (l : List Blk) (v : List Lnk) : (finalL c l v).length ≤ v.length + 1 := by
  unfold finalL
  split
  · have := setL_len (FinalC c l v) (univC v); simpa [univC] using this
  · simp
theorem justL_eq {c : Cfg} {l : List Blk} (h : MayC c ∧ Tree l) {v : List Lnk} {g : List Chk} (hs : SortedC g) (hm : ∀ x, x ∈ g ↔ JustC c l v x) : g = justL c l v :=
  sortedC_uniq hs (sorted_justL c l v) fun x => (hm x).trans (mem_justL h).symm
theorem finalL_eq {c : Cfg} {l : List Blk} (h : MayC c ∧ Tree l) {v : List Lnk} {g : List Chk} (hs : SortedC g) (hm : ∀ x, x ∈ g ↔ FinalC c l v x) : g = finalL c l v :=
  sortedC_uniq hs (sorted_finalL c l v) fun x => (hm x).trans (mem_finalL h).symm
/-! ## With more links -/
theorem whoW_sub {c : Cfg} {l : List Blk} {v w : List Lnk} (h : ∀ x ∈ v, x ∈ w) (p : Way) : ∀ i ∈ whoW c l v p, i ∈ whoW c l w p := by
  intro i hi
  obtain ⟨x, h1, h2⟩ := mem_whoW.1 hi
  exact mem_whoW.2 ⟨x, h x h1, h2⟩
theorem strong_mono {c : Cfg} {l : List Blk} {v w : List Lnk} (h : ∀ x ∈ v, x ∈ w) {p : Way} (hs : StrongW c l v p) : StrongW c l w p := by
  obtain ⟨h1, h2⟩ := hs
  have hsub := whoW_sub (c := c) (l := l) h p
  refine ⟨fun e => ?_, ?_⟩
  · cases hw : whoW c l v p with
    | nil => exact h1 hw
    | cons i r => have := hsub i (by rw [hw]; simp); rw [e] at this; cases this
  · have := weightC_mono c hsub; omega
theorem reach_mono {S T : Way → Prop} (h : ∀ p, S p → T p) {x : Chk} (hx : ComeTo S x) : ComeTo T x := by
  induction hx with
  | zero => exact .zero
  | step _ h2 ih => exact .step ih (h _ h2)
theorem just_mono {c : Cfg} {l : List Blk} {v w : List Lnk} (h : ∀ x ∈ v, x ∈ w) {x : Chk} (hx : JustC c l v x) : JustC c l w x := reach_mono (fun _ => strong_mono h) hx
theorem final_mono {c : Cfg} {l : List Blk} {v w : List Lnk} (h : ∀ x ∈ v, x ∈ w) {x : Chk} (hx : FinalC c l v x) : FinalC c l w x := by
  rcases hx with rfl | ⟨h1, t, h2, h3⟩
  · exact .inl rfl
  · refine .inr ⟨just_mono h h1, t, strong_mono h h2, ?_⟩
    rcases h3 with h3 | ⟨h3, m, h4, h5⟩
    · exact .inl h3
    · exact .inr ⟨h3, m, just_mono h h4, h5⟩
theorem justL_sub {c : Cfg} {l : List Blk} {v w : List Lnk} (h : ∀ x ∈ v, x ∈ w) : ∀ x ∈ justL c l v, x ∈ justL c l w := by
  intro x hx
  by_cases hm : MayC c ∧ Tree l
  · rw [mem_justL hm] at hx ⊢; exact just_mono h hx
  · rw [justL_no hm] at hx; cases hx
theorem finalL_sub {c : Cfg} {l : List Blk} {v w : List Lnk} (h : ∀ x ∈ v, x ∈ w) : ∀ x ∈ finalL c l v, x ∈ finalL c l w := by
  intro x hx
  by_cases hm : MayC c ∧ Tree l
  · rw [mem_finalL hm] at hx ⊢; exact final_mono h hx
  · rw [finalL_no hm] at hx; cases hx
theorem finalL_justL {c : Cfg} {l : List Blk} {v : List Lnk} : ∀ x ∈ finalL c l v, x ∈ justL c l v := by
  intro x hx
  by_cases hm : MayC c ∧ Tree l
  · rw [mem_finalL hm] at hx; rw [mem_justL hm]; exact final_just hx
  · rw [finalL_no hm] at hx; cases hx
/-- Not in epoch 0 but the first one. -/
theorem just_epoch {c : Cfg} {l : List Blk} {v : List Lnk} {x : Chk} (h : JustC c l v x) : x = zchk ∨ 1 ≤ x.epoch := by
  cases h with
  | zero => exact .inl rfl
  | step _ h => have hk := strong_ok h; right; have h1 := hk.lo; have h2 := hk.lt; omega
theorem sorted_head {g : List Chk} (hs : SortedC g) {x : Chk} (hx : x ∈ g) (hlt : ∀ y ∈ g, y = x ∨ ltC x y = true) : ∃ r, g = x :: r := by
  cases g with
  | nil => cases hx
  | cons a r =>
    rcases hlt a (by simp) with rfl | h
    · exact ⟨r, rfl⟩
    · rcases List.mem_cons.1 hx with rfl | h2
      · exact ⟨r, rfl⟩
      · have := (List.pairwise_cons.1 hs).1 x h2
        rw [ltC_asymm this] at h
        cases h
theorem zchk_lt {x : Chk} (h : 1 ≤ x.epoch) : ltC zchk x = true := by
  rw [ltC_iff]
  left
  show (0 : Int) < _
  omega
theorem justL_head {c : Cfg} {l : List Blk} (h : MayC c ∧ Tree l) (v : List Lnk) : ∃ r, justL c l v = zchk :: r :=
  sorted_head (sorted_justL c l v) ((mem_justL h).2 .zero) fun _ hy => (just_epoch ((mem_justL h).1 hy)).imp id zchk_lt
theorem finalL_head {c : Cfg} {l : List Blk} (h : MayC c ∧ Tree l) (v : List Lnk) : ∃ r, finalL c l v = zchk :: r :=
  sorted_head (sorted_finalL c l v) ((mem_finalL h).2 (.inl rfl)) fun _ hy => (just_epoch (final_just ((mem_finalL h).1 hy))).imp id zchk_lt
/-! ## The same links -/
theorem justL_same {c : Cfg} {l : List Blk} {v w : List Lnk} (h : ∀ x, x ∈ v ↔ x ∈ w) : justL c l v = justL c l w :=
  sortedC_uniq (sorted_justL c l v) (sorted_justL c l w) fun x => ⟨justL_sub (fun y hy => (h y).1 hy) x, justL_sub (fun y hy => (h y).2 hy) x⟩
theorem finalL_same {c : Cfg} {l : List Blk} {v w : List Lnk} (h : ∀ x, x ∈ v ↔ x ∈ w) : finalL c l v = finalL c l w :=
  sortedC_uniq (sorted_finalL c l v) (sorted_finalL c l w) fun x => ⟨finalL_sub (fun y hy => (h y).1 hy) x, finalL_sub (fun y hy => (h y).2 hy) x⟩
/-! ## Grounds -/
theorem just_ground {c : Cfg} {l : List Blk} {v : List Lnk} {x : Chk} (h : JustC c l v x) (hx : x ≠ zchk) : ∃ s, JustC c l v s ∧ StrongW c l v ⟨s, x⟩ ∧ s.epoch < x.epoch ∧ s.root ∈ chain l x.root := by
  cases h with
  | zero => exact absurd rfl hx
  | @step p h1 h2 =>
    have := strong_ok h2
    exact ⟨p.src, h1, h2, this.lt, this.under⟩
theorem sorted_lt {g : List Chk} (hs : SortedC g) {i j : Nat} (hi : i < g.length) (hj : j < g.length) (h : ltC g[i] g[j] = true) : i < j := by
  rcases Nat.lt_trichotomy i j with h1 | h1 | h1
  · exact h1
  · subst h1; rw [ltC_irrefl] at h; cases h
  · have := List.pairwise_iff_getElem.1 hs j i hj hi h1
    rw [ltC_asymm this] at h; cases h
theorem justL_ground {c : Cfg} {l : List Blk} {v : List Lnk} {i : Nat} (h0 : 1 ≤ i) (hi : i < (justL c l v).length) :
    ∃ k, ∃ hk : k < i, (justL c l v)[k].epoch < (justL c l v)[i].epoch ∧ (justL c l v)[k].root ∈ chain l (justL c l v)[i].root ∧ StrongW c l v ⟨(justL c l v)[k], (justL c l v)[i]⟩ := by
  by_cases hm : MayC c ∧ Tree l
  · have hs := sorted_justL c l v
    have hne : (justL c l v)[i] ≠ zchk := by
      intro e
      obtain ⟨r, hr⟩ := justL_head hm v
      have h00 : 0 < (justL c l v).length := by omega
      have e0 : (justL c l v)[0] = zchk := by simp [hr]
      have := List.pairwise_iff_getElem.1 hs 0 i h00 hi (by omega)
      rw [e, e0, ltC_irrefl] at this
      cases this
    obtain ⟨s, h1, h2, h3, h4⟩ := just_ground ((mem_justL hm).1 (List.getElem_mem hi)) hne
    obtain ⟨k, hk, he⟩ := List.getElem_of_mem ((mem_justL hm).2 h1)
    have hlt : k < i := sorted_lt hs hk hi (by rw [he, ltC_iff]; left; exact h3)
    refine ⟨k, hlt, ?_⟩
    rw [he]
    exact ⟨h3, h4, h2⟩
  · rw [justL_no hm] at hi; cases hi
theorem justL_rises {c : Cfg} {l : List Blk} {v : List Lnk} {i : Nat} (hi : i + 1 < (justL c l v).length) : (justL c l v)[i].epoch ≤ (justL c l v)[i + 1].epoch ∧ (justL c l v)[i] ≠ (justL c l v)[i + 1] := by
  have := List.pairwise_iff_getElem.1 (sorted_justL c l v) i (i + 1) (by omega) hi (by omega)
  refine ⟨?_, fun e => ?_⟩
  · rw [ltC_iff] at this; omega
  · rw [e, ltC_irrefl] at this; cases this
/-! ## Few -/
theorem whoW_all {c : Cfg} {l : List Blk} {v : List Lnk} {p : Way} : ∀ i ∈ whoW c l v p, i ∈ v.map (·.frm) := by
  intro i hi
  obtain ⟨x, h1, _, _, h2⟩ := mem_whoW.1 hi
  exact List.mem_map.2 ⟨x, h1, h2⟩
theorem just_weak {c : Cfg} {l : List Blk} {v : List Lnk} (h : 3 * weightC c (v.map (·.frm)) < 2 * totalC c) {x : Chk} (hx : JustC c l v x) : x = zchk := by
  cases hx with
  | zero => rfl
  | @step p _ h2 => have h3 := weightC_mono c (whoW_all (c := c) (l := l) (v := v) (p := p)); have h4 := h2.2; omega
theorem sorted_one {g : List Chk} (hs : SortedC g) {x : Chk} (h : ∀ y ∈ g, y = x) : g.length ≤ 1 := by
  match g, hs, h with
  | [], _, _ => simp
  | [_], _, _ => simp
  | a :: b :: r, hs, h =>
    have := (List.pairwise_cons.1 hs).1 b (by simp)
    rw [h a (by simp), h b (by simp), ltC_irrefl] at this
    cases this
theorem justL_weak {c : Cfg} {l : List Blk} {v : List Lnk} (h : 3 * weightC c (v.map (·.frm)) < 2 * totalC c) : (justL c l v).length ≤ 1 := by
  by_cases hm : MayC c ∧ Tree l
  · exact sorted_one (sorted_justL c l v) (x := zchk) fun y hy => just_weak h ((mem_justL hm).1 hy)
  · rw [justL_no hm]; simp
theorem finalL_weak {c : Cfg} {l : List Blk} {v : List Lnk} (h : 3 * weightC c (v.map (·.frm)) < 2 * totalC c) : (finalL c l v).length ≤ 1 := by
  by_cases hm : MayC c ∧ Tree l
  · exact sorted_one (sorted_finalL c l v) (x := zchk) fun y hy => just_weak h (final_just ((mem_finalL hm).1 hy))
  · rw [finalL_no hm]; simp
end Go.Proofs.Ytdocgemfedohdaa
