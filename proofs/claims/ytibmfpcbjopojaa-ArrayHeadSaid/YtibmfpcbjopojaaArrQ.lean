/- How weight that is put on a place is carried up to the beginning (the plain law). -/
import Derived.Test.YtibmfpcbjopojaaGE
namespace Go.Proofs.Ytibmfpcbjopojaa
def upN (a : List Item) : Nat → Int → Int
  | 0, c => c
  | n + 1, c => if c < 0 then -1 else upN a n (itm a c.toNat).par
/-- k is c, or below it. -/
def Up (a : List Item) (c : Int) (k : Nat) : Prop := ∃ n, upN a n c = k
theorem upN_neg (a : List Item) (n : Nat) : upN a n (-1) = -1 := by
  cases n with
  | zero => rfl
  | succ n => rw [upN, if_pos (by omega)]
theorem upN_add (a : List Item) (m : Nat) : ∀ (n : Nat) (c : Int), upN a (n + m) c = upN a m (upN a n c)
  | 0, c => by rw [Nat.zero_add]; rfl
  | n + 1, c => by
    rw [Nat.succ_add, upN, upN]
    by_cases h : c < 0
    · rw [if_pos h, if_pos h, upN_neg]
    · rw [if_neg h, if_neg h, upN_add a m n]
theorem Up_none {a : List Item} {k : Nat} : ¬ Up a (-1) k := fun ⟨n, h⟩ => by rw [upN_neg] at h; omega
theorem Up_self (a : List Item) (i : Nat) : Up a i i := ⟨0, rfl⟩
theorem Up_iff {a : List Item} {i k : Nat} : Up a i k ↔ k = i ∨ Up a (itm a i).par k := by
  constructor
  · rintro ⟨n, h⟩
    cases n with
    | zero => left; have : (i : Int) = k := h; omega
    | succ n =>
      right
      rw [upN, if_neg (by omega)] at h
      simp only [Int.toNat_natCast] at h
      exact ⟨n, h⟩
  · rintro (rfl | ⟨n, h⟩)
    · exact Up_self a _
    · refine ⟨n + 1, ?_⟩
      rw [upN, if_neg (by omega)]
      simpa using h
theorem Up_trans {a : List Item} {c : Int} {i k : Nat} (h1 : Up a c i) (h2 : Up a i k) : Up a c k := by
  obtain ⟨n, h1⟩ := h1
  obtain ⟨m, h2⟩ := h2
  exact ⟨n + m, by rw [upN_add, h1, h2]⟩
theorem Up_le {a : List Item} (hp : ParOk a) : ∀ (m i k : Nat), i ≤ m → i < a.length → Up a i k → k ≤ i := by
  intro m
  induction m with
  | zero =>
    intro i k hi hl h
    rcases Up_iff.1 h with h | h
    · omega
    · have := hp i hl
      rw [show (itm a i).par = -1 by omega] at h
      exact absurd h Up_none
  | succ m ih =>
    intro i k hi hl h
    rcases Up_iff.1 h with h | h
    · omega
    · have hpi := hp i hl
      by_cases e : (itm a i).par = -1
      · rw [e] at h
        exact absurd h Up_none
      · obtain ⟨q, hq⟩ : ∃ q : Nat, (itm a i).par = q := ⟨(itm a i).par.toNat, by omega⟩
        rw [hq] at h hpi
        have := ih q k (by omega) (by omega) h
        omega
theorem Up_par_ne {a : List Item} (hp : ParOk a) {c : Nat} (hc : c < a.length) : ¬ Up a (itm a c).par c := fun h => by
  have hpc := hp c hc
  by_cases e : (itm a c).par = -1
  · rw [e] at h
    exact Up_none h
  · obtain ⟨q, hq⟩ : ∃ q : Nat, (itm a c).par = q := ⟨(itm a c).par.toNat, by omega⟩
    rw [hq] at h hpc
    have := Up_le hp q q c (Nat.le_refl _) (by omega) h
    omega
structure J (a0 : List Item) (at' : Nat) (by' : Int) (cur : Int) (a : List Item) : Prop where
  len : a.length = a0.length
  sk : ∀ i, i < a.length → (itm a i).id = (itm a0 i).id ∧ (itm a i).par = (itm a0 i).par ∧ (itm a i).own = (itm a0 i).own + if i = at' then by' else 0
  we : ∀ i : Nat, i < a.length → (i : Int) ≠ cur → WEq a i
  wc : ∀ i : Nat, i < a.length → (i : Int) = cur → (itm a i).w + by' = (itm a i).own + wsum a i a.length
  be : ∀ i, i < a.length → ¬ Up a0 cur i → BEq a i
  tr1 : ∀ i, i < a.length → Up a0 at' i → ¬ Up a0 cur i → (itm a i).w = (itm a0 i).w + by'
  tr2 : ∀ i, i < a.length → (¬ Up a0 at' i ∨ Up a0 cur i) → (itm a i).w = (itm a0 i).w
  on : cur = -1 ∨ ∃ c : Nat, cur = c ∧ c < a.length ∧ Up a0 at' c
structure Pre (a : List Item) (at' : Nat) : Prop where
  par : ParOk a
  lt : at' < a.length
  we : ∀ i, i < a.length → WEq a i
  be : ∀ i, i < a.length → ¬ Up a at' i → BEq a i
theorem Pre_settled {a : List Item} {i : Nat} (hp : ParOk a) (hs : Settled a) (hi : i < a.length) : Pre a i := ⟨hp, hi, fun k hk => (hs k hk).1, fun k hk _ => (hs k hk).2⟩
/-- What an array looks like where one item's fields other than those of its skeleton are changed. -/
theorem J_start {a : List Item} {at' : Nat} {by' : Int} (h : Pre a at') : J a at' by' at' (a.set at' { itm a at' with own := (itm a at').own + by' }) := by
  obtain ⟨hp, hl, hw, hb⟩ := h
  have hit : ∀ k, itm (a.set at' { itm a at' with own := (itm a at').own + by' }) k = if k = at' then { itm a at' with own := (itm a at').own + by' } else itm a k := fun k => itm_set a at' k _ hl
  have hlen : (a.set at' { itm a at' with own := (itm a at').own + by' }).length = a.length := by simp
  generalize a.set at' { itm a at' with own := (itm a at').own + by' } = b at hit hlen
  have hpar : ∀ k, (itm b k).par = (itm a k).par := fun k => by rw [hit]; split <;> simp_all
  have hid : ∀ k, (itm b k).id = (itm a k).id := fun k => by rw [hit]; split <;> simp_all
  have hww : ∀ k, (itm b k).w = (itm a k).w := fun k => by rw [hit]; split <;> simp_all
  have hhd : ∀ k, (itm b k).head = (itm a k).head := fun k => by rw [hit]; split <;> simp_all
  have hbs : ∀ k, (itm b k).best = (itm a k).best := fun k => by rw [hit]; split <;> simp_all
  have hown : ∀ k, (itm b k).own = (itm a k).own + if k = at' then by' else 0 := fun k => by rw [hit]; split <;> simp_all
  have hsum : ∀ p : Int, wsum b p b.length = wsum a p a.length := fun p => by rw [hlen]; exact wsum_congr (fun k _ => by rw [hpar]) (fun k _ _ => hww k)
  have hbe : ∀ p, best b p = best a p := fun p => by unfold best; rw [hlen]; exact bestTo_congr (fun k _ => by rw [hpar]) (fun k _ _ => ⟨hww k, hid k⟩)
  refine ⟨hlen, fun i _ => ⟨hid i, hpar i, hown i⟩, fun i hi hne => ?_, fun i hi he => ?_, fun i hi hu => ?_, fun i hi h1 h2 => absurd h1 h2, fun i _ _ => hww i, .inr ⟨at', rfl, by omega, Up_self a at'⟩⟩
  · unfold WEq
    rw [hsum, hww, hown, if_neg (by omega), Int.add_zero]
    exact hw i (by omega)
  · have := hw i (by omega)
    unfold WEq at this
    rw [hsum, hww, hown, if_pos (by omega), this]
    omega
  · obtain ⟨h1, h2⟩ := hb i (by omega) hu
    refine ⟨by rw [hbs, hbe, h1], ?_⟩
    rw [hhd, h2]
    exact (headOf_eq (hbe i).symm hlen.symm (fun k _ _ => (hhd k).symm))
def bump (a : List Item) (c : Nat) (by' : Int) : List Item := a.set c { itm a c with w := (itm a c).w + by' }
def settleP (a : List Item) (i : Nat) : List Item := a.set i { itm a i with best := best a i, head := headOf a i }
theorem settleP_len (a : List Item) (i : Nat) : (settleP a i).length = a.length := by simp [settleP]
theorem bump_len (a : List Item) (i : Nat) (y : Int) : (bump a i y).length = a.length := by simp [bump]
theorem J_step {a0 a : List Item} {at' : Nat} {by' : Int} {c : Nat} (hp : ParOk a0) (hc : c < a.length) (h : J a0 at' by' c a) : J a0 at' by' (itm a0 c).par (settleP (bump a c by') c) := by
  obtain ⟨hlen, sk, we, wc, be, tr1, tr2, on⟩ := h
  have hit1 : ∀ k, itm (bump a c by') k = if k = c then { itm a c with w := (itm a c).w + by' } else itm a k := fun k => itm_set a c k _ hc
  have hl1 := bump_len a c by'
  generalize hbdef : bump a c by' = b at hit1 hl1
  have hit2 : ∀ k, itm (settleP b c) k = if k = c then { itm b c with best := best b c, head := headOf b c } else itm b k := fun k => itm_set b c k _ (by omega)
  have hl2 := settleP_len b c
  generalize hddef : settleP b c = d at hit2 hl2
  have hdl : d.length = a.length := by omega
  have n1 : ∀ k, k ≠ c → itm b k = itm a k := fun k hk => by rw [hit1, if_neg hk]
  have n2 : ∀ k, k ≠ c → itm d k = itm a k := fun k hk => by rw [hit2, if_neg hk, n1 k hk]
  have m1 : itm b c = { itm a c with w := (itm a c).w + by' } := by rw [hit1, if_pos rfl]
  have m2 : itm d c = { itm b c with best := best b c, head := headOf b c } := by rw [hit2, if_pos rfl]
  have parA : ∀ k, k < a.length → (itm a k).par = (itm a0 k).par := fun k hk => (sk k hk).2.1
  have parB : ∀ k, (itm b k).par = (itm a k).par := fun k => if e : k = c then by subst e; rw [m1] else by rw [n1 k e]
  have parD : ∀ k, (itm d k).par = (itm a k).par := fun k => if e : k = c then by subst e; rw [m2, m1] else by rw [n2 k e]
  have idD : ∀ k, (itm d k).id = (itm a k).id := fun k => if e : k = c then by subst e; rw [m2, m1] else by rw [n2 k e]
  have ownD : ∀ k, (itm d k).own = (itm a k).own := fun k => if e : k = c then by subst e; rw [m2, m1] else by rw [n2 k e]
  have wDc : (itm d c).w = (itm a c).w + by' := by rw [m2, m1]
  have kid : ∀ k, k < a.length → (itm a k).par = (c : Int) → k ≠ c := fun k hk h e => by subst e; have := (hp k (by omega)).2; rw [← parA k hk] at this; omega
  have upc : ∀ i, ¬ Up a0 (itm a0 c).par i → i ≠ c → ¬ Up a0 c i := fun i h1 h2 h3 => by rcases Up_iff.1 h3 with h | h; exact h2 h; exact h1 h
  have parC := parA c hc
  refine ⟨by omega, fun i hi => ?_, fun i hi hne => ?_, fun i hi he => ?_, fun i hi hu => ?_, fun i hi h1 h2 => ?_, fun i hi h1 => ?_, ?_⟩
  · obtain ⟨s1, s2, s3⟩ := sk i (by omega)
    rw [idD, parD, ownD]
    exact ⟨s1, s2, s3⟩
  · unfold WEq
    by_cases e : i = c
    · subst e
      rw [wDc, ownD, hdl, wc i hc rfl]
      congr 1
      exact wsum_congr (fun k _ => by rw [parD]) (fun k hk h => by rw [n2 k (kid k hk h)])
    · have := we i (by omega) (by omega)
      unfold WEq at this
      rw [n2 i e, this, hdl]
      congr 1
      exact wsum_congr (fun k _ => by rw [parD]) (fun k hk h => by rw [n2 k (fun e2 => by subst e2; rw [parC] at h; exact hne h.symm)])
  · have hic : i ≠ c := fun e => by subst e; have := (hp i (by omega)).2; omega
    have := we i (by omega) (by omega)
    unfold WEq at this
    rw [n2 i hic, this, hdl]
    have e2 : wsum d i a.length = wsum a i a.length + by' := by
      have e3 : by' = sumR (fun k => if k = c then by' else 0) a.length := by rw [sumR_one hc (fun k _ hn => if_neg hn), if_pos rfl]
      unfold wsum
      conv => rhs; rw [e3]
      rw [← sumR_add]
      apply sumR_congr
      intro k hk
      show (if (itm d k).par = i then (itm d k).w else 0) = (if (itm a k).par = i then (itm a k).w else 0) + if k = c then by' else 0
      rw [parD]
      by_cases e : k = c
      · subst e; rw [if_pos (by omega), if_pos (by omega), if_pos rfl, wDc]
      · rw [n2 k e, if_neg e, Int.add_zero]
    rw [e2]
    omega
  · by_cases e : i = c
    · subst e
      have hbd : best d i = best b i := by unfold best; rw [hl2]; exact bestTo_congr (fun k _ => by rw [parD, parB]) (fun k hk h => by have := kid k (by omega) (by rw [← parD]; exact h); rw [n2 k this, n1 k this]; exact ⟨rfl, rfl⟩)
      have hhd : headOf d i = headOf b i := headOf_eq hbd hl2 (fun k hk h => by have := kid k (by omega) (by rw [← parD]; exact h); rw [n2 k this, n1 k this])
      refine ⟨?_, ?_⟩
      · rw [hbd, m2]
      · rw [hhd, m2]
    · have hnk : ∀ k, k < a.length → (itm a k).par = (i : Int) → k ≠ c := fun k hk h e2 => by
        subst e2
        rw [parC] at h
        rw [h] at hu
        exact hu (Up_self a0 i)
      obtain ⟨b1, b2⟩ := be i (by omega) (upc i hu e)
      have hbd : best d i = best a i := by unfold best; rw [hdl]; exact bestTo_congr (fun k _ => by rw [parD]) (fun k hk h => by rw [n2 k (hnk k (by omega) (by rw [← parD]; exact h))]; exact ⟨rfl, rfl⟩)
      refine ⟨by rw [hbd, n2 i e, b1], ?_⟩
      rw [n2 i e, b2]
      exact (headOf_eq hbd hdl (fun k hk h => by rw [n2 k (hnk k (by omega) (by rw [← parD]; exact h))])).symm
  · by_cases e : i = c
    · subst e
      rw [wDc, tr2 i hc (.inr (Up_self a0 i))]
    · rw [n2 i e]
      exact tr1 i (by omega) h1 (upc i h2 e)
  · by_cases e : i = c
    · subst e
      exfalso
      rcases h1 with h1 | h1
      · rcases on with h | ⟨q, hq, _, hu⟩
        · omega
        · have : q = i := by omega
          subst this
          exact h1 hu
      · exact Up_par_ne hp (by omega) h1
    · rw [n2 i e]
      refine tr2 i (by omega) ?_
      rcases h1 with h1 | h1
      · exact .inl h1
      · exact .inr (Up_iff.2 (.inr h1))
  · by_cases e : (itm a0 c).par = -1
    · exact .inl e
    · have hpc := hp c (by omega)
      refine .inr ⟨(itm a0 c).par.toNat, by omega, by omega, ?_⟩
      rcases on with h | ⟨q, hq, _, hu⟩
      · omega
      · have : q = c := by omega
        subst this
        refine Up_trans hu (Up_iff.2 (.inr ?_))
        have e2 : (itm a0 q).par = ((itm a0 q).par.toNat : Int) := by omega
        conv => arg 2; rw [e2]
        exact Up_self a0 _
theorem J_end {a0 a : List Item} {at' : Nat} {by' : Int} (h : J a0 at' by' (-1) a) : Settled a := fun i hi => ⟨h.we i hi (by omega), h.be i hi Up_none⟩
end Go.Proofs.Ytibmfpcbjopojaa
