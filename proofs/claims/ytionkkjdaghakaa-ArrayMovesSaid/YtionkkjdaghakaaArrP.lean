/- The pure law of arrays of blocks: settled ones, their uniqueness, and how weight that is put on one is carried up. -/
import Derived.Test.YtionkkjdaghakaaBase
namespace Go.Proofs.Ytionkkjdaghakaa
instance : Inhabited ID := ⟨⟨0, 0⟩⟩
structure Item where
  id : ID
  par : Int
  own : Int
  w : Int
  best : Int
  head : Int
  deriving DecidableEq, Inhabited
def encItem (x : Item) : List Value := [.int .u64 x.id.hi, .int .u64 x.id.lo, .int .i64 x.par, .int .i64 x.own, .int .i64 x.w, .int .i64 x.best, .int .i64 x.head]
def idLess (a b : ID) : Bool := decide (a.hi < b.hi) || decide (a.hi = b.hi) && decide (a.lo < b.lo)
def itm (a : List Item) (i : Nat) : Item := a[i]?.getD default
theorem itm_lt {a : List Item} {i : Nat} (h : i < a.length) : itm a i = a[i] := by simp [itm, h]
theorem itm_set (a : List Item) (i k : Nat) (x : Item) (h : i < a.length) : itm (a.set i x) k = if k = i then x else itm a k := by
  unfold itm
  rw [List.getElem?_set]
  by_cases e : i = k
  · subst e; simp [h]
  · rw [if_neg e, if_neg (fun h => e h.symm)]
theorem itm_app (a : List Item) (x : Item) (k : Nat) (h : k < a.length) : itm (a ++ [x]) k = itm a k := by unfold itm; rw [List.getElem?_append_left h]
theorem itm_new (a : List Item) (x : Item) : itm (a ++ [x]) a.length = x := by simp [itm]
theorem itm_ext {a b : List Item} (hl : a.length = b.length) (h : ∀ i, i < a.length → itm a i = itm b i) : a = b := by
  apply List.ext_getElem hl
  intro i h1 h2
  have := h i h1
  rwa [itm_lt h1, itm_lt h2] at this
/-! Sums. -/
def sumR (f : Nat → Int) : Nat → Int
  | 0 => 0
  | n + 1 => sumR f n + f n
theorem sumR_congr {f g : Nat → Int} {n : Nat} (h : ∀ k, k < n → f k = g k) : sumR f n = sumR g n := by
  induction n with
  | zero => rfl
  | succ n ih => rw [sumR, sumR, ih (fun k hk => h k (by omega)), h n (by omega)]
theorem sumR_add (f g : Nat → Int) (n : Nat) : sumR (fun k => f k + g k) n = sumR f n + sumR g n := by
  induction n with
  | zero => rfl
  | succ n ih => simp only [sumR, ih]; omega
theorem sumR_sub (f g : Nat → Int) (n : Nat) : sumR (fun k => f k - g k) n = sumR f n - sumR g n := by
  induction n with
  | zero => rfl
  | succ n ih => simp only [sumR, ih]; omega
theorem sumR_zero {f : Nat → Int} {n : Nat} (h : ∀ k, k < n → f k = 0) : sumR f n = 0 := by
  induction n with
  | zero => rfl
  | succ n ih => rw [sumR, ih (fun k hk => h k (by omega)), h n (by omega)]; rfl
theorem sumR_one {f : Nat → Int} {n i : Nat} (hi : i < n) (h : ∀ k, k < n → k ≠ i → f k = 0) : sumR f n = f i := by
  induction n with
  | zero => omega
  | succ n ih =>
    rw [sumR]
    by_cases e : i = n
    · subst e; rw [sumR_zero (fun k hk => h k (by omega) (by omega))]; omega
    · rw [ih (by omega) (fun k hk hn => h k (by omega) hn), h n (by omega) (fun e2 => e e2.symm)]; omega
theorem sumR_nonneg {f : Nat → Int} {n : Nat} (h : ∀ k, k < n → 0 ≤ f k) : 0 ≤ sumR f n := by
  induction n with
  | zero => exact Int.le_refl _
  | succ n ih => rw [sumR]; have := ih (fun k hk => h k (by omega)); have := h n (by omega); omega
theorem sumR_mem {f : Nat → Int} {n i : Nat} (h : ∀ k, k < n → 0 ≤ f k) (hi : i < n) : f i ≤ sumR f n := by
  induction n with
  | zero => omega
  | succ n ih =>
    rw [sumR]
    by_cases e : i = n
    · subst e; have := sumR_nonneg (f := f) (n := i) (fun k hk => h k (by omega)); omega
    · have := ih (fun k hk => h k (by omega)) (by omega); have := h n (by omega); omega
theorem sumR_bd {f : Nat → Int} {B : Int} {n : Nat} (h : ∀ k, k < n → f k ≤ B) (_ : 0 ≤ B) : sumR f n ≤ n * B := by
  induction n with
  | zero => simp [sumR]
  | succ n ih => rw [sumR]; have := ih (fun k hk => h k (by omega)); have := h n (by omega); rw [Int.natCast_succ, Int.add_mul]; omega
/-! What a settled array is. -/
def better (x y : Item) : Bool := decide (y.w < x.w) || decide (x.w = y.w) && idLess y.id x.id
def bestTo (a : List Item) (at' : Int) : Nat → Int
  | 0 => -1
  | k + 1 => if (itm a k).par = at' ∧ (bestTo a at' k = -1 ∨ better (itm a k) (itm a (bestTo a at' k).toNat) = true) then (k : Int) else bestTo a at' k
def best (a : List Item) (at' : Int) : Int := bestTo a at' a.length
def wsum (a : List Item) (at' : Int) (n : Nat) : Int := sumR (fun k => if (itm a k).par = at' then (itm a k).w else 0) n
def WEq (a : List Item) (i : Nat) : Prop := (itm a i).w = (itm a i).own + wsum a i a.length
def headOf (a : List Item) (i : Nat) : Int := if best a i = -1 then (i : Int) else (itm a (best a i).toNat).head
def BEq (a : List Item) (i : Nat) : Prop := (itm a i).best = best a i ∧ (itm a i).head = headOf a i
def ParOk (a : List Item) : Prop := ∀ i, i < a.length → -1 ≤ (itm a i).par ∧ (itm a i).par < i
def Settled (a : List Item) : Prop := ∀ i, i < a.length → WEq a i ∧ BEq a i
def SameSk (a b : List Item) : Prop := a.length = b.length ∧ ∀ i, i < a.length → (itm a i).id = (itm b i).id ∧ (itm a i).par = (itm b i).par ∧ (itm a i).own = (itm b i).own
theorem bestTo_spec (a : List Item) (p : Int) (n : Nat) : bestTo a p n = -1 ∨ ∃ j : Nat, j < n ∧ (itm a j).par = p ∧ bestTo a p n = j := by
  induction n with
  | zero => exact .inl rfl
  | succ n ih =>
    rw [bestTo]
    split
    · rename_i h
      exact .inr ⟨n, by omega, h.1, rfl⟩
    · rcases ih with h | ⟨j, h1, h2, h3⟩
      · exact .inl h
      · exact .inr ⟨j, by omega, h2, h3⟩
theorem bestTo_none {a : List Item} {p : Int} {n : Nat} : bestTo a p n = -1 ↔ ∀ k, k < n → (itm a k).par ≠ p := by
  induction n with
  | zero => simp [bestTo]
  | succ n ih =>
    rw [bestTo]
    constructor
    · intro h
      split at h
      · omega
      · rename_i hn
        intro k hk e
        by_cases e2 : k = n
        · subst e2; exact hn ⟨e, .inl h⟩
        · exact ih.1 h k (by omega) e
    · intro h
      rw [if_neg (fun hc => h n (by omega) hc.1)]
      exact ih.2 (fun k hk => h k (by omega))
/-- The best one is told by what stands on p alone. -/
theorem bestTo_congr {a b : List Item} {p : Int} {n : Nat} (hp : ∀ k, k < n → ((itm a k).par = p ↔ (itm b k).par = p)) (hv : ∀ k, k < n → (itm a k).par = p → (itm a k).w = (itm b k).w ∧ (itm a k).id = (itm b k).id) : bestTo a p n = bestTo b p n := by
  induction n with
  | zero => rfl
  | succ n ih =>
    have ih' := ih (fun k hk => hp k (by omega)) (fun k hk => hv k (by omega))
    rw [bestTo, bestTo, ih']
    by_cases h1 : (itm a n).par = p
    · have h2 := (hp n (by omega)).1 h1
      obtain ⟨e1, e2⟩ := hv n (by omega) h1
      have hb : bestTo b p n = -1 ∨ better (itm a n) (itm a (bestTo b p n).toNat) = better (itm b n) (itm b (bestTo b p n).toNat) := by
        rw [← ih']
        rcases bestTo_spec a p n with h | ⟨j, j1, j2, j3⟩
        · exact .inl h
        · right
          obtain ⟨f1, f2⟩ := hv j (by omega) j2
          rw [j3]
          simp only [Int.toNat_natCast, better, e1, e2, f1, f2]
      rcases hb with hb | hb
      · simp [h1, h2, hb]
      · simp [h1, h2, hb]
    · have h2 : ¬ (itm b n).par = p := fun h => h1 ((hp n (by omega)).2 h)
      rw [if_neg (fun h => h1 h.1), if_neg (fun h => h2 h.1)]
theorem wsum_congr {a b : List Item} {p : Int} {n : Nat} (hp : ∀ k, k < n → ((itm a k).par = p ↔ (itm b k).par = p)) (hv : ∀ k, k < n → (itm a k).par = p → (itm a k).w = (itm b k).w) : wsum a p n = wsum b p n := by
  unfold wsum
  apply sumR_congr
  intro k hk
  show (if (itm a k).par = p then (itm a k).w else 0) = if (itm b k).par = p then (itm b k).w else 0
  by_cases h : (itm a k).par = p
  · rw [if_pos h, if_pos ((hp k hk).1 h), hv k hk h]
  · rw [if_neg h, if_neg (fun h2 => h ((hp k hk).2 h2))]
theorem headOf_eq {a b : List Item} {i : Nat} (hb : best a i = best b i) (_ : a.length = b.length) (hh : ∀ k, k < a.length → (itm a k).par = i → (itm a k).head = (itm b k).head) : headOf a i = headOf b i := by
  unfold headOf
  rw [← hb]
  rcases bestTo_spec a i a.length with h | ⟨j, j1, j2, j3⟩
  · have h' : best a i = -1 := h
    rw [if_pos h', if_pos h']
  · have h' : best a i = j := j3
    rw [h', if_neg (by omega), if_neg (by omega)]
    simp only [Int.toNat_natCast]
    exact hh j j1 j2
/-- Two settled arrays of one skeleton are one. -/
theorem settled_uniq {a b : List Item} (hp : ParOk a) (hs : SameSk a b) (ha : Settled a) (hb : Settled b) : a = b := by
  obtain ⟨hl, hs⟩ := hs
  refine itm_ext hl ?_
  have key : ∀ m i, i < a.length → a.length ≤ i + m → itm a i = itm b i := by
    intro m
    induction m with
    | zero => intro i h1 h2; omega
    | succ m ih =>
      intro i h1 h2
      obtain ⟨e1, e2, e3⟩ := hs i h1
      obtain ⟨w1, b1, c1⟩ := ha i h1
      obtain ⟨w2, b2, c2⟩ := hb i (by omega)
      have hch : ∀ k, k < a.length → (itm a k).par = i → itm a k = itm b k := fun k hk hpk => ih k hk (by have := (hp k hk).2; omega)
      have hpi : ∀ k, k < a.length → ((itm a k).par = i ↔ (itm b k).par = i) := fun k hk => by rw [(hs k hk).2.1]
      have hw : wsum a i a.length = wsum b i b.length := by rw [← hl]; exact wsum_congr hpi (fun k hk h => by rw [hch k hk h])
      have hbe : best a i = best b i := by unfold best; rw [← hl]; exact bestTo_congr hpi (fun k hk h => by rw [hch k hk h]; exact ⟨rfl, rfl⟩)
      have hhe : headOf a i = headOf b i := headOf_eq hbe hl (fun k hk h => by rw [hch k hk h])
      unfold WEq at w1 w2
      rw [e3, hw, ← w2] at w1
      rw [hbe, ← b2] at b1
      rw [hhe, ← c2] at c1
      cases hx : itm a i
      cases hy : itm b i
      simp_all
  intro i hi
  exact key a.length i hi (by omega)
/-! What stands ahead of i weighs, together, what all from i on have of their own. -/
theorem cut_sum {a : List Item} (hp : ParOk a) (hw : ∀ i, i < a.length → WEq a i) : ∀ m i, a.length = i + m → sumR (fun k => if i ≤ k ∧ (itm a k).par < i then (itm a k).w else 0) a.length = sumR (fun k => if i ≤ k then (itm a k).own else 0) a.length := by
  intro m
  induction m with
  | zero =>
    intro i h
    rw [sumR_zero (fun k hk => if_neg (by omega)), sumR_zero (fun k hk => if_neg (by omega))]
  | succ m ih =>
    intro i h
    have hi : i < a.length := by omega
    have h1 := ih (i + 1) (by omega)
    have e1 : sumR (fun k => if i ≤ k ∧ (itm a k).par < i then (itm a k).w else 0) a.length = sumR (fun k => if i + 1 ≤ k ∧ (itm a k).par < (i + 1 : Nat) then (itm a k).w else 0) a.length - wsum a i a.length + (itm a i).w := by
      have e2 : (itm a i).w = sumR (fun k => if k = i then (itm a k).w else 0) a.length := by
        rw [sumR_one hi (fun k _ hn => if_neg hn), if_pos rfl]
      rw [e2]
      unfold wsum
      rw [← sumR_sub, ← sumR_add]
      apply sumR_congr
      intro k hk
      have := (hp k hk).2
      by_cases c1 : k = i
      · subst c1
        rw [if_pos ⟨by omega, this⟩, if_neg (by omega), if_neg (by omega), if_pos rfl]; omega
      · by_cases c2 : k < i
        · rw [if_neg (by omega), if_neg (by omega), if_neg (by omega), if_neg c1]; omega
        · by_cases c3 : (itm a k).par = i
          · rw [if_neg (by omega), if_pos (by omega), if_pos c3, if_neg c1]; omega
          · by_cases c4 : (itm a k).par < i
            · rw [if_pos (by omega), if_pos (by omega), if_neg c3, if_neg c1]; omega
            · rw [if_neg (by omega), if_neg (by omega), if_neg c3, if_neg c1]; omega
    have e3 : sumR (fun k => if i ≤ k then (itm a k).own else 0) a.length = sumR (fun k => if i + 1 ≤ k then (itm a k).own else 0) a.length + (itm a i).own := by
      have e2 : (itm a i).own = sumR (fun k => if k = i then (itm a k).own else 0) a.length := by
        rw [sumR_one hi (fun k _ hn => if_neg hn), if_pos rfl]
      rw [e2, ← sumR_add]
      apply sumR_congr
      intro k hk
      by_cases c1 : k = i
      · subst c1; rw [if_pos (by omega), if_neg (by omega), if_pos rfl]; omega
      · by_cases c2 : i + 1 ≤ k
        · rw [if_pos (by omega), if_pos c2, if_neg c1]; omega
        · rw [if_neg (by omega), if_neg c2, if_neg c1]; omega
    have hwi := hw i hi
    unfold WEq at hwi
    rw [e1, h1, e3]
    omega
theorem wnonneg {a : List Item} (hp : ParOk a) (hw : ∀ i, i < a.length → WEq a i) (ho : ∀ i, i < a.length → 0 ≤ (itm a i).own) : ∀ i, i < a.length → 0 ≤ (itm a i).w := by
  have key : ∀ m i, i < a.length → a.length ≤ i + m → 0 ≤ (itm a i).w := by
    intro m
    induction m with
    | zero => intro i h1 h2; omega
    | succ m ih =>
      intro i h1 h2
      rw [hw i h1]
      have := ho i h1
      have : 0 ≤ wsum a i a.length := sumR_nonneg (fun k hk => by
        show 0 ≤ if (itm a k).par = (i : Int) then (itm a k).w else 0
        split
        · rename_i e; exact ih k hk (by have := (hp k hk).2; omega)
        · exact Int.le_refl _)
      omega
  intro i hi
  exact key a.length i hi (by omega)
theorem w_bound {a : List Item} {B : Int} (hp : ParOk a) (hw : ∀ i, i < a.length → WEq a i) (ho : ∀ i, i < a.length → 0 ≤ (itm a i).own ∧ (itm a i).own ≤ B) {i : Nat} (hi : i < a.length) : 0 ≤ (itm a i).w ∧ (itm a i).w ≤ a.length * B := by
  have hn := wnonneg hp hw (fun i hi => (ho i hi).1)
  refine ⟨hn i hi, ?_⟩
  have hB : 0 ≤ B := by have := ho i hi; omega
  have h1 := cut_sum hp hw (a.length - i) i (by omega)
  have h2 := sumR_mem (f := fun k => if i ≤ k ∧ (itm a k).par < i then (itm a k).w else 0) (n := a.length) (i := i) (fun k hk => by
    show 0 ≤ if i ≤ k ∧ (itm a k).par < i then (itm a k).w else 0
    split
    · exact hn k hk
    · exact Int.le_refl _) hi
  have h3 : sumR (fun k => if i ≤ k then (itm a k).own else 0) a.length ≤ a.length * B := sumR_bd (fun k hk => by
    show (if i ≤ k then (itm a k).own else 0) ≤ B
    split
    · exact (ho k hk).2
    · exact hB) hB
  have h4 : (if i ≤ i ∧ (itm a i).par < i then (itm a i).w else 0) = (itm a i).w := if_pos ⟨Nat.le_refl _, (hp i hi).2⟩
  simp only [h4] at h2
  omega
theorem root_sum {a : List Item} (hp : ParOk a) (hw : ∀ i, i < a.length → WEq a i) : wsum a (-1) a.length = sumR (fun k => (itm a k).own) a.length := by
  have h := cut_sum hp hw a.length 0 (by omega)
  rw [show wsum a (-1) a.length = sumR (fun k => if 0 ≤ k ∧ (itm a k).par < (0 : Nat) then (itm a k).w else 0) a.length from sumR_congr (fun k hk => by
    have := (hp k hk).1
    show (if (itm a k).par = -1 then (itm a k).w else 0) = _
    by_cases c : (itm a k).par = -1
    · rw [if_pos c, if_pos (by omega)]
    · rw [if_neg c, if_neg (by omega)]), h]
  exact sumR_congr (fun k hk => if_pos (Nat.zero_le _))
end Go.Proofs.Ytionkkjdaghakaa
