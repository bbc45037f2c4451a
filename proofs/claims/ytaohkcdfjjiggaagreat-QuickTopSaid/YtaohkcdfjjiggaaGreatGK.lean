/- GK: several texts in one. -/
import Derived.Test.YtaohkcdfjjiggaaGreatGD
import Derived.Test.YtaohkcdfjjiggaaGreatGE
import Derived.Test.YtaohkcdfjjiggaaGreatGA
import Derived.Conc.MuLone
import Derived.Defers
import Derived.Laws.Pointers
import Derived.Laws.LoneSync
import Derived.RegionTactic
import Derived.RegionCalls
import Derived.ChangeAlike
import Derived.Laws.BitsAllLaws
import Derived.Deep.QuietTactic
import Derived.Lib.MinMax
import Derived.Laws.MakeOwn
/-! Two slices of a call's own that do not share. -/
namespace Go.Proofs.YtaohkcdfjjiggaaGreat
def Apart2 (u v : Value) : Prop := ∀ k, u.ownBlock = some k → v.ownBlock ≠ some k
theorem Apart2.symm {u v : Value} (h : Apart2 u v) : Apart2 v u := fun k h1 h2 => h k h2 h1
theorem Apart2.row {u v : Value} (h : Apart2 u v) : u.ownBlock = none ∨ v.ownBlock ≠ u.ownBlock := by
  cases hu : u.ownBlock with
  | none => exact .inl rfl
  | some k => exact .inr (h k hu)
theorem Apart2.grow {u u' v : Value} {w : World} (h : Apart2 u v) (hu : u'.ownBlock = u.ownBlock ∨ u'.ownBlock = some w.heap.size) (hv : ∀ k, v.ownBlock = some k → k < w.heap.size) : Apart2 u' v := fun k h1 h2 => by
  rcases hu with e | e
  · exact h k (e.symm.trans h1) h2
  · rw [e] at h1; cases h1; have := hv _ h2; omega
theorem apart_nil (u : Value) : Apart2 (.slice none 0 0) u := fun k h => by simp [Value.ownBlock] at h
theorem Own.row2 {α : Type} {w w' : World} {base : Nat} {e : TypeId} {k : Nat} {enc : α → List Value} {u v : Value} {xs : List α} (h : Own w base e k enc v xs) (hg : w.grownBy w' u.ownBlock) (ha : Apart2 u v) : Own w' base e k enc v xs := by
  rcases ha.row with e' | e'
  · exact h.grown hg (.inl e')
  · exact h.grown hg (.inr e')
/-! What counts looks at which votes there are, no more. -/
theorem ofL_congr {l m : List Vote} (h : ∀ x, x ∈ l ↔ x ∈ m) (s : Int) : ofL l s = ofL m s :=
  ofL_eq ⟨(ofL_is l s).1, fun v => by rw [(ofL_is l s).2 v]; unfold InOf; rw [h v, dbl_congr h]⟩
theorem lastL_congr {l m : List Vote} (h : ∀ x, x ∈ l ↔ x ∈ m) (u : Int) : lastL l u = lastL m u :=
  lastL_eq ⟨(lastL_is l u).1, fun v => by rw [(lastL_is l u).2 v]; unfold InLast; simp only [h, dbl_congr h]⟩
theorem dblL_congr {l m : List Vote} (h : ∀ x, x ∈ l ↔ x ∈ m) (s : Int) : dblL l s = dblL m s :=
  dblL_eq ⟨(dblL_is l s).1, fun f => by rw [(dblL_is l s).2 f, dbl_congr h]⟩
def ownS (l : List Vote) (s : Int) : List Vote := l.filter fun x => x.slot == s
def uptoS (l : List Vote) (s : Int) : List Vote := l.filter fun x => decide (x.slot ≤ s)
theorem mem_ownS {l : List Vote} {s : Int} {x : Vote} : x ∈ ownS l s ↔ x ∈ l ∧ x.slot = s := by simp [ownS]
theorem mem_uptoS {l : List Vote} {s : Int} {x : Vote} : x ∈ uptoS l s ↔ x ∈ l ∧ x.slot ≤ s := by simp [uptoS]
theorem dbl_own {l : List Vote} {s f : Int} : Dbl (ownS l s) s f ↔ Dbl l s f := by
  constructor
  · exact dbl_mono fun x hx => (mem_ownS.1 hx).1
  · rintro ⟨x, hx, y, hy, h1, h2, h3, h4, h5⟩
    exact ⟨x, mem_ownS.2 ⟨hx, h3⟩, y, mem_ownS.2 ⟨hy, h4⟩, h1, h2, h3, h4, h5⟩
theorem dbl_upto {l : List Vote} {s u f : Int} (h : s ≤ u) : Dbl (uptoS l u) s f ↔ Dbl l s f := by
  constructor
  · exact dbl_mono fun x hx => (mem_uptoS.1 hx).1
  · rintro ⟨x, hx, y, hy, h1, h2, h3, h4, h5⟩
    exact ⟨x, mem_uptoS.2 ⟨hx, by omega⟩, y, mem_uptoS.2 ⟨hy, by omega⟩, h1, h2, h3, h4, h5⟩
theorem ofL_own (l : List Vote) (s : Int) : ofL (ownS l s) s = ofL l s :=
  ofL_eq ⟨(ofL_is _ s).1, fun v => by
    rw [(ofL_is _ s).2 v]
    unfold InOf
    rw [mem_ownS, dbl_own]
    exact ⟨fun ⟨⟨h1, _⟩, h3, h4⟩ => ⟨h1, h3, h4⟩, fun ⟨h1, h3, h4⟩ => ⟨⟨h1, h3⟩, h3, h4⟩⟩⟩
theorem dblL_own (l : List Vote) (s : Int) : dblL (ownS l s) s = dblL l s :=
  dblL_eq ⟨(dblL_is _ s).1, fun f => by rw [(dblL_is _ s).2 f, dbl_own]⟩
theorem lastL_upto (l : List Vote) (u : Int) : lastL (uptoS l u) u = lastL l u :=
  lastL_eq ⟨(lastL_is _ u).1, fun v => by
    rw [(lastL_is _ u).2 v]
    unfold InLast
    constructor
    · rintro ⟨h1, h2, h3, h4⟩
      exact ⟨(mem_uptoS.1 h1).1, h2, fun y hy hf hu => h3 y (mem_uptoS.2 ⟨hy, hu⟩) hf hu, fun y hy hf hu hd => h4 y (mem_uptoS.2 ⟨hy, hu⟩) hf hu ((dbl_upto hu).2 hd)⟩
    · rintro ⟨h1, h2, h3, h4⟩
      exact ⟨mem_uptoS.2 ⟨h1, h2⟩, h2, fun y hy hf hu => h3 y (mem_uptoS.1 hy).1 hf hu, fun y hy hf hu hd => h4 y (mem_uptoS.1 hy).1 hf hu ((dbl_upto hu).1 hd)⟩⟩
theorem ownS_snoc (l : List Vote) (s : Int) {k : Nat} (h : k < l.length) : ownS (l.take (k + 1)) s = ownS (l.take k) s ++ (if l[k].slot = s then [l[k]] else []) := by
  unfold ownS
  rw [List.take_succ_eq_append_getElem h, List.filter_append]
  by_cases e : l[k].slot = s <;> simp [e]
theorem uptoS_snoc (l : List Vote) (s : Int) {k : Nat} (h : k < l.length) : uptoS (l.take (k + 1)) s = uptoS (l.take k) s ++ (if l[k].slot ≤ s then [l[k]] else []) := by
  unfold uptoS
  rw [List.take_succ_eq_append_getElem h, List.filter_append]
  by_cases e : l[k].slot ≤ s <;> simp [e]
theorem ownS_len (l : List Vote) (s : Int) : (ownS l s).length ≤ l.length := List.length_filter_le _ _
theorem uptoS_len (l : List Vote) (s : Int) : (uptoS l s).length ≤ l.length := List.length_filter_le _ _
end Go.Proofs.YtaohkcdfjjiggaaGreat
/-! Who votes in a slot, and which of their votes count: the plain law. -/
namespace Go.Proofs.YtaohkcdfjjiggaaGreat
/-- Where a round of a shuffle takes a place. -/
def shufRound (seed n r i : Int) : Int :=
  let mate := (mixStep seed r % n + n - i) % n
  if mixStep (mixStep seed (1000 + r)) (if i < mate then mate else i) % 2 = 1 then mate else i
def shufTo (seed n : Int) : Nat → Int → Int
  | 0, i => i
  | r + 1, i => shufRound seed n r (shufTo seed n r i)
def shufAt (seed n i : Int) : Int := shufTo seed n 10 i
theorem shufRound_bd {seed n r i : Int} (hn : 0 < n) (h0 : 0 ≤ i) (h1 : i < n) : 0 ≤ shufRound seed n r i ∧ shufRound seed n r i < n := by
  unfold shufRound
  have h2 := Int.emod_nonneg (mixStep seed r % n + n - i) (show n ≠ 0 by omega)
  have h3 := Int.emod_lt_of_pos (mixStep seed r % n + n - i) hn
  simp only
  generalize (if i < (mixStep seed r % n + n - i) % n then (mixStep seed r % n + n - i) % n else i) = z
  split
  · exact ⟨h2, h3⟩
  · exact ⟨h0, h1⟩
theorem shufTo_bd {seed n i : Int} (hn : 0 < n) (h0 : 0 ≤ i) (h1 : i < n) : ∀ r, 0 ≤ shufTo seed n r i ∧ shufTo seed n r i < n
  | 0 => ⟨h0, h1⟩
  | r + 1 => by
    have ih := shufTo_bd hn h0 h1 (seed := seed) r
    exact shufRound_bd hn ih.1 ih.2
theorem shufAt_bd {seed n i : Int} (hn : 0 < n) (h0 : 0 ≤ i) (h1 : i < n) : 0 ≤ shufAt seed n i ∧ shufAt seed n i < n := shufTo_bd hn h0 h1 10
/-- A slot that may be. -/
def SlotOk (s : Int) : Prop := 1 ≤ s ∧ s ≤ 1048576
instance (s : Int) : Decidable (SlotOk s) := by unfold SlotOk; exact inferInstance
def comP (c : Cfg) (s : Int) (i : Nat) : Bool := decide (shufAt (mixStep c.seed (s / c.epoch)) c.W.length i % c.epoch = s % c.epoch)
def comL (c : Cfg) (s : Int) : List Int := (those c.W.length (comP c s) c.W.length).map fun i => (i.val : Int)
/-- Those who vote in a slot. -/
def comC (c : Cfg) (s : Int) : List Int := if MayC c ∧ SlotOk s then comL c s else []
theorem mem_those {m : Nat} {p : Nat → Bool} {x : Fin m} : ∀ k, x ∈ those m p k ↔ x.val < k ∧ p x.val = true
  | 0 => by simp [those]
  | k + 1 => by
    have ih := mem_those (x := x) (p := p) k
    simp only [those]
    have e2 : x.val = k → (x.val < k + 1) := by omega
    by_cases h : k < m
    · rw [dif_pos h]
      by_cases hp : p k = true
      · rw [if_pos hp, List.mem_append, ih, List.mem_singleton]
        constructor
        · rintro (⟨h1, h2⟩ | h1)
          · exact ⟨by omega, h2⟩
          · subst h1; exact ⟨by simp, hp⟩
        · rintro ⟨h1, h2⟩
          by_cases e : x.val = k
          · right; exact Fin.ext e
          · left; exact ⟨by omega, h2⟩
      · rw [if_neg hp, ih]
        constructor
        · rintro ⟨h1, h2⟩; exact ⟨by omega, h2⟩
        · rintro ⟨h1, h2⟩
          refine ⟨?_, h2⟩
          by_cases e : x.val = k
          · rw [e] at h2; exact absurd h2 hp
          · omega
    · rw [dif_neg h, ih]
      have := x.isLt
      constructor
      · rintro ⟨h1, h2⟩; exact ⟨by omega, h2⟩
      · rintro ⟨h1, h2⟩; exact ⟨by omega, h2⟩
theorem mem_comC {c : Cfg} {s x : Int} : x ∈ comC c s ↔ (MayC c ∧ SlotOk s) ∧ ∃ i : Nat, i < c.W.length ∧ x = i ∧ comP c s i = true := by
  unfold comC
  by_cases h : MayC c ∧ SlotOk s
  · rw [if_pos h]
    unfold comL
    rw [List.mem_map]
    constructor
    · rintro ⟨i, hi, rfl⟩
      exact ⟨h, i.val, i.isLt, rfl, ((mem_those _).1 hi).2⟩
    · rintro ⟨_, i, hi, rfl, hp⟩
      exact ⟨⟨i, hi⟩, (mem_those _).2 ⟨hi, hp⟩, rfl⟩
  · rw [if_neg h]
    exact ⟨fun e => (by cases e), fun e => absurd e.1 h⟩
theorem those_rises {m : Nat} (p : Nat → Bool) : ∀ k, Rises ((those m p k).map fun i => (i.val : Int))
  | 0 => trivial
  | k + 1 => by
    have ih := those_rises (m := m) p k
    simp only [those]
    split
    · rename_i h
      split
      · rw [List.map_append, List.map_singleton]
        have hlt : ∀ x ∈ (those m p k).map (fun i => (i.val : Int)), x < k := fun x hx => by
          obtain ⟨i, hi, rfl⟩ := List.mem_map.1 hx
          have := ((mem_those _).1 hi).1
          omega
        show Rises (_ ++ [(k : Int)])
        generalize (those m p k).map (fun i => (i.val : Int)) = l at ih hlt
        clear h
        induction l with
        | nil => exact ⟨by simp, trivial⟩
        | cons y l ih2 =>
          refine ⟨fun z hz => ?_, ih2 ih.2 (fun x hx => hlt x (by simp [hx]))⟩
          rcases List.mem_append.1 hz with hz | hz
          · exact ih.1 z hz
          · have := hlt y (by simp)
            rw [List.mem_singleton.1 hz]; exact this
      · exact ih
    · exact ih
theorem comC_rises (c : Cfg) (s : Int) : Rises (comC c s) := by
  unfold comC
  split
  · exact those_rises _ _
  · trivial
theorem comC_len (c : Cfg) (s : Int) : (comC c s).length ≤ 12 := by
  unfold comC
  split
  · rename_i h
    unfold comL
    rw [List.length_map]
    have := those_len c.W.length (comP c s) c.W.length
    have := h.1.len
    omega
  · simp
/-- The votes of a slot's committee that count. -/
def goldOf (c : Cfg) (v : List Vote) (s : Int) : List Vote := (ofL v s).filter fun x => decide (x.frm ∈ comC c s)
noncomputable def goldHead (c : Cfg) (l : List Blk) (v : List Vote) (s : Int) : ID := headBy l (onC c l (goldOf c v s))
theorem risesV_filter (p : Vote → Bool) : ∀ {o : List Vote}, RisesV o → RisesV (o.filter p)
  | [], _ => trivial
  | x :: xs, h => by
    have ih := risesV_filter p (o := xs) h.2
    by_cases e : p x = true
    · rw [List.filter_cons_of_pos e]
      refine ⟨fun z hz => ?_, ih⟩
      obtain ⟨y, hy, rfl⟩ := List.mem_map.1 hz
      exact h.1 _ (List.mem_map_of_mem (List.mem_filter.1 hy).1)
    · rw [List.filter_cons_of_neg e]
      exact ih
theorem goldOf_rises (c : Cfg) (v : List Vote) (s : Int) : RisesV (goldOf c v s) := risesV_filter _ (ofL_is v s).1
theorem goldOf_len (c : Cfg) (v : List Vote) (s : Int) : (goldOf c v s).length ≤ v.length := Nat.le_trans (List.length_filter_le _ _) (ofL_len v s)
theorem mem_gold {c : Cfg} {v : List Vote} {s : Int} {x : Vote} : x ∈ goldOf c v s ↔ InOf v s x ∧ x.frm ∈ comC c s := by
  unfold goldOf
  rw [List.mem_filter, (ofL_is v s).2 x]
  simp
theorem gold_congr {c : Cfg} {v v' : List Vote} {s : Int} (h : ∀ x, x ∈ v ↔ x ∈ v') : goldOf c v s = goldOf c v' s := by
  unfold goldOf
  rw [ofL_congr h]
theorem dbl_app {l : List Vote} {v : Vote} {s f : Int} (hf : f ≠ v.frm ∨ s ≠ v.slot) : Dbl (l ++ [v]) s f ↔ Dbl l s f := by
  constructor
  · rintro ⟨x, hx, y, hy, h1, h2, h3, h4, r⟩
    have : ∀ z ∈ l ++ [v], z.frm = f → z.slot = s → z ∈ l := fun z hz e e2 => by
      rcases List.mem_append.1 hz with hz | hz
      · exact hz
      · rw [List.mem_singleton.1 hz] at e e2
        rcases hf with h | h
        · exact absurd e.symm h
        · exact absurd e2.symm h
    exact ⟨x, this x hx h1 h3, y, this y hy h2 h4, h1, h2, h3, h4, r⟩
  · exact dbl_mono fun x hx => List.mem_append_left _ hx
/-- A vote of another slot, or of who is not in the committee, does not matter. -/
theorem gold_more {c : Cfg} {v : List Vote} {s : Int} {x : Vote} (h : ¬ (x.slot = s ∧ x.frm ∈ comC c s)) : goldOf c (v ++ [x]) s = goldOf c v s := by
  refine risesV_uniq (goldOf_rises _ _ _) (goldOf_rises _ _ _) fun z => ?_
  rw [mem_gold, mem_gold]
  unfold InOf
  have key : ∀ (_ : z.slot = s) (_ : z.frm ∈ comC c s), z.frm ≠ x.frm ∨ s ≠ x.slot := fun h1 h2 => by
    by_cases e : s = x.slot
    · left
      intro e2
      exact h ⟨e.symm, by rw [← e2]; exact h2⟩
    · exact .inr e
  constructor
  · rintro ⟨⟨h1, h2, h3⟩, h4⟩
    have hk := key h2 h4
    refine ⟨⟨?_, h2, fun hd => h3 ((dbl_app hk).2 hd)⟩, h4⟩
    rcases List.mem_append.1 h1 with h1 | h1
    · exact h1
    · rw [List.mem_singleton.1 h1] at h2 h4
      exact absurd ⟨h2, h4⟩ h
  · rintro ⟨⟨h1, h2, h3⟩, h4⟩
    have hk := key h2 h4
    exact ⟨⟨List.mem_append_left _ h1, h2, fun hd => h3 ((dbl_app hk).1 hd)⟩, h4⟩
/-- GoldHalf. -/
theorem gold_half (c : Cfg) {l : List Blk} {v : List Vote} {s : Int} {y : ID} (h : onC c l (goldOf c v s) zid < 2 * onC c l (goldOf c v s) y) : y ∈ chain l (goldHead c l v s) :=
  head_half c (goldOf_rises c v s) (Int.le_refl 0) (fun x => ⟨Int.le_refl _, by omega⟩) (by omega)
theorem wsumTo_sub {W : List Int} (h : ∀ x ∈ W, 0 ≤ x ∧ x ≤ 1099511627776) {p q : Nat → Bool} (hpq : ∀ i, i < W.length → p i = true → q i = true) : ∀ k, wsumTo W p k ≤ wsumTo W q k
  | 0 => Int.le_refl _
  | k + 1 => by
    have ih := wsumTo_sub h hpq k
    simp only [wsumTo]
    by_cases hk : k < W.length
    · have h1 := h _ (List.getElem_mem hk)
      by_cases hp : p k = true
      · rw [if_pos hp, if_pos (hpq k hk hp)]; omega
      · rw [if_neg hp]
        split <;> simp [hk] <;> omega
    · have : W[k]? = none := by simp; omega
      rw [this]
      simp only [Option.getD_none, ite_self]; omega
theorem weightC_sub {c : Cfg} {a b : List Int} (h : ∀ i : Nat, i < c.W.length → (i : Int) ∈ a → (i : Int) ∈ b) : weightC c a ≤ weightC c b := by
  unfold weightC
  by_cases hm : MayC c
  · rw [if_pos hm, if_pos hm]
    exact wsumTo_sub hm.W (fun i hi hp => by simpa using h i hi (by simpa using hp)) _
  · rw [if_neg hm, if_neg hm]; exact Int.le_refl _
/-- GoldOutvotes: who votes for y out of 'good' outweighs all who are not of them. -/
theorem gold_outvotes (c : Cfg) {l : List Blk} {v : List Vote} {s : Int} {y : ID} {good : List Vote} {bad : List Int} (hg : ∀ x ∈ good, x ∈ goldOf c v s)
    (hb : ∀ f ∈ comC c s, (¬ ∃ x ∈ good, x.frm = f ∧ y ∈ chain l x.head) → f ∈ bad) (h : weightC c bad < onC c l good y) : y ∈ chain l (goldHead c l v s) := by
  have hz := (weightC_bd c bad).1
  have hy : chain l y ≠ [] := fun e => by
    have h2 := on_unknown c (l := l) good e
    omega
  refine head_under hy (fun p k k' hk hk' hne hky => ?_)
  have h1 : onC c l good y ≤ onC c l (goldOf c v s) k := weightC_mono c (whoOn_sub fun x hx hc => ⟨hg x hx, chain_trans hc hky⟩)
  have h2 : onC c l (goldOf c v s) k' ≤ weightC c bad := by
    unfold onC
    refine weightC_sub fun i _ hi => ?_
    obtain ⟨x, hx, hxk, hxf⟩ := mem_whoOn.1 hi
    rw [← hxf]
    refine hb _ (mem_gold.1 hx).2 ?_
    rintro ⟨z, hz, hzf, hzy⟩
    have e : z = x := risesV_inj (goldOf_rises c v s) (hg z hz) hx hzf
    subst e
    exact hne (kids_one hk hk' (chain_trans hzy hky) hxk)
  omega
/-- GoldAll: in epochs of one slot all are in the committee. -/
theorem com_one {c : Cfg} {s : Int} (hm : MayC c) (hs : SlotOk s) (h1 : c.epoch = 1) (x : Int) : x ∈ comC c s ↔ 0 ≤ x ∧ x < c.W.length := by
  rw [mem_comC]
  constructor
  · rintro ⟨_, i, hi, rfl, _⟩; omega
  · rintro ⟨h2, h3⟩
    refine ⟨⟨hm, hs⟩, x.toNat, by omega, by omega, ?_⟩
    unfold comP
    rw [h1]
    have e1 := Int.emod_one (shufAt (mixStep c.seed (s / 1)) c.W.length x.toNat)
    have e2 := Int.emod_one s
    simp [e2]
theorem gold_none {c : Cfg} {s : Int} (h : ¬ (MayC c ∧ SlotOk s)) (v : List Vote) : goldOf c v s = [] := by
  unfold goldOf
  rw [List.filter_eq_nil_iff]
  intro x _ hx
  simp only [decide_eq_true_eq] at hx
  exact h (mem_comC.1 hx).1
end Go.Proofs.YtaohkcdfjjiggaaGreat
/-! Shuffles: sync's parts. -/
namespace Go.Proofs.YtaohkcdfjjiggaaGreat
open Go.RowKit
abbrev muLink : Go.Conc.Locks.MuLink := { lock := 175, unlock := 176, ilock := 178, iunlock := 179, lockSlow := 186, unlockSlow := 189, disable := 182, enable := 184, acquire := 185, relMerge := 187, cas32 := 183, add32 := 188, tMutex := 132, tIMutex := 130, tPMutex := 213, tPIMutex := 216, tPI32 := 218, tUP := 220, tNoCopy := 124, tU32 := 126 }
theorem muLib : Go.Conc.Locks.MuLib Tryz.prog muLink where
  f_lock := Tryz.func175
  f_unlock := Tryz.func176
  f_ilock := Tryz.func178
  f_iunlock := Tryz.func179
  f_disable := Tryz.func182
  f_enable := Tryz.func184
  f_acquire := Tryz.func185
  f_relMerge := Tryz.func187
  f_cas32 := Tryz.func183
  f_add32 := Tryz.func188
  underlying_tIMutex := Tryz.underlying130
  runUnderlying_tIMutex := Tryz.runUnderlying130
  sizeOf_tIMutex := Tryz.sizeOf130
  isAgg_tIMutex := Tryz.isAgg130
  zeroValue_tIMutex := Tryz.zeroValue130
  underlying_tMutex := Tryz.underlying132
  runUnderlying_tMutex := Tryz.runUnderlying132
  sizeOf_tMutex := Tryz.sizeOf132
  isAgg_tMutex := Tryz.isAgg132
  zeroValue_tMutex := Tryz.zeroValue132
  underlying_tPMutex := Tryz.underlying213
  runUnderlying_tPMutex := Tryz.runUnderlying213
  sizeOf_tPMutex := Tryz.sizeOf213
  isAgg_tPMutex := Tryz.isAgg213
  zeroValue_tPMutex := Tryz.zeroValue213
  underlying_tPIMutex := Tryz.underlying216
  runUnderlying_tPIMutex := Tryz.runUnderlying216
  sizeOf_tPIMutex := Tryz.sizeOf216
  isAgg_tPIMutex := Tryz.isAgg216
  zeroValue_tPIMutex := Tryz.zeroValue216
  underlying_tPI32 := Tryz.underlying218
  runUnderlying_tPI32 := Tryz.runUnderlying218
  sizeOf_tPI32 := Tryz.sizeOf218
  isAgg_tPI32 := Tryz.isAgg218
  zeroValue_tPI32 := Tryz.zeroValue218
  underlying_tUP := Tryz.underlying220
  runUnderlying_tUP := Tryz.runUnderlying220
  sizeOf_tUP := Tryz.sizeOf220
  isAgg_tUP := Tryz.isAgg220
  zeroValue_tUP := Tryz.zeroValue220
  underlying_tNoCopy := Tryz.underlying124
  runUnderlying_tNoCopy := Tryz.runUnderlying124
  sizeOf_tNoCopy := Tryz.sizeOf124
  isAgg_tNoCopy := Tryz.isAgg124
  zeroValue_tNoCopy := Tryz.zeroValue124
  underlying_t21 := Tryz.underlying21
  runUnderlying_t21 := Tryz.runUnderlying21
  sizeOf_t21 := Tryz.sizeOf21
  isAgg_t21 := Tryz.isAgg21
  zeroValue_t21 := Tryz.zeroValue21
  room_tIMutex := by kernel_rfl
theorem bstore_deferred (a : Addr) (x : Value) (u : FrameMode) (w : World) (hc : w.cell? a = some x) (hz : w.frozen? a = false) :
    CallsD Tryz.prog 177 #[.pointer (some a), .bool true] u w fun e u' w' => u' = u ∧ (e = .returned (.tuple #[]) ∧ w' = w.drew.setCell a (.int .u32 1)) := by
  have hc' : w.drew.cell? a = some x := by go_simp
  have hz' : w.drew.frozen? a = false := by go_simp
  have hst := run_call_store (P := Tryz.prog) Tryz.func180 (by kernel_rfl) (by kernel_rfl) (by kernel_rfl) (by kernel_rfl) (k := .u32) (y := 1) hc' hz'
  go_enter_d Tryz.func177, Tryz.ntmps177
  go_wp2
  go_region_calls
  all_goals (go_end0; exact ⟨rfl, rfl⟩)
theorem bload_any (a : Addr) (d : Int) (w : World) (h0 : w.cell? a = some (.int .u32 d)) :
    Calls Tryz.prog 171 #[.pointer (some a)] w fun e w' => e = .returned (.bool (d != 0)) ∧ w' = w := by
  have hl := run_call_load (P := Tryz.prog) Tryz.func174 (by kernel_rfl) (by kernel_rfl) (by kernel_rfl) .u32 (by kernel_rfl) h0
  go_enter Tryz.func171, Tryz.ntmps171
  go_wp2
  go_ret
  exact ⟨rfl, rfl⟩
theorem iadd_any (a : Addr) (x : Int) (w : World) (hc : w.cell? a = some (.int .i64 x)) (hz : w.frozen? a = false) :
    Calls Tryz.prog 166 #[.pointer (some a), .int .i64 1] w fun e w' => e = .returned (.int .i64 (wrap64 (x + 1))) ∧ w' = w.setCell a (.int .i64 (wrap64 (x + 1))) := by
  have hadd := run_call_add (P := Tryz.prog) Tryz.func173 (by kernel_rfl) (by kernel_rfl) (by kernel_rfl) .i64 (by kernel_rfl) (y := 1) (s := wrap64 (x + 1)) hc hz (by simp [go_sem]; rw [IntKind.wrap_i64]; unfold wrap64; rfl)
  go_enter Tryz.func166, Tryz.ntmps166
  go_wp2
  go_ret
  exact ⟨rfl, rfl⟩
theorem iload_any (a : Addr) (x : Int) (w : World) (h0 : w.cell? a = some (.int .i64 x)) :
    Calls Tryz.prog 94 #[.pointer (some a)] w fun e w' => e = .returned (.int .i64 x) ∧ w' = w := by
  have hl := run_call_load (P := Tryz.prog) Tryz.func124 (by kernel_rfl) (by kernel_rfl) (by kernel_rfl) .i64 (by kernel_rfl) h0
  go_enter Tryz.func94, Tryz.ntmps94
  go_wp2
  go_ret
  exact ⟨rfl, rfl⟩
end Go.Proofs.YtaohkcdfjjiggaaGreat
/-! Shuffles: a round that is worked out when it is first asked for. -/
namespace Go.Proofs.YtaohkcdfjjiggaaGreat
open Go.RowKit
theorem u64_id {x : Int} (h0 : 0 ≤ x) (h1 : x < 18446744073709551616) : IntKind.u64.wrap x = x := by
  have : IntKind.u64.wrap x = x % 18446744073709551616 := by simp [IntKind.wrap, IntKind.bits, IntKind.signed]
  omega
theorem u64_nat (x : Int) : ∃ n : Nat, n < 18446744073709551616 ∧ IntKind.u64.wrap x = n := by
  have h : IntKind.u64.wrap x = x % 18446744073709551616 := by simp [IntKind.wrap, IntKind.bits, IntKind.signed]
  exact ⟨(x % 18446744073709551616).toNat, by omega, by omega⟩
theorem mixWord_nat (a : Int) : ∃ n : Nat, n < 18446744073709551616 ∧ mixWord a = n := by
  unfold mixWord
  dsimp only
  generalize IntKind.u64.wrap (bits BinOp.xor IntKind.u64 a (a / 1073741824) * 13787848793156543929) = x
  obtain ⟨y, hy, e⟩ := u64_nat (bits BinOp.xor IntKind.u64 x (x / 134217728) * 10723151780598845931)
  rw [e]
  have h2 : (y : Int) / 2147483648 = ((y / 2147483648 : Nat) : Int) := by omega
  rw [h2, u64_xor_nat _ _ hy (by omega)]
  exact ⟨_, Nat.xor_lt_two_pow (n := 64) hy (by omega), rfl⟩
theorem mixStep_nn (h x : Int) : 0 ≤ mixStep h x := by
  obtain ⟨n, _, e⟩ := mixWord_nat (IntKind.u64.wrap (bits BinOp.xor IntKind.u64 h x + 11400714819323198485))
  unfold mixStep
  rw [e]
  omega
theorem w64_id {x : Int} (h0 : 0 ≤ x) (h1 : x < 9223372036854775808) : wrap64 x = x := by
  unfold wrap64; omega
set_option maxRecDepth 100000 in
set_option maxHeartbeats 1600000 in
theorem get1_any (B D R X : Nat) (off : Nat) (r seed n : Int) (x3 x4 : Value) (w : World) (hr0 : 0 ≤ r) (hr1 : r < 10) (hn0 : 0 < n) (hn1 : n ≤ 1000)
    (hD : w.cell? ⟨D, 0, none⟩ = some (.pointer (some ⟨B, 0, none⟩))) (hR : w.cell? ⟨R, 0, none⟩ = some (.int .i64 r)) (hX : w.cell? ⟨X, 0, none⟩ = some (.pointer (some ⟨B, off, none⟩)))
    (h0 : w.cell? ⟨B, 0, none⟩ = some (.int .u64 seed)) (h1 : w.cell? ⟨B, 1, none⟩ = some (.int .i64 n))
    (h3 : w.cell? ⟨B, off + 3, none⟩ = some x3) (h4 : w.cell? ⟨B, off + 4, none⟩ = some x4) (f3 : w.frozen? ⟨B, off + 3, none⟩ = false) (f4 : w.frozen? ⟨B, off + 4, none⟩ = false)
    (_ : D ≠ B) (_ : R ≠ B) (_ : X ≠ B) (hoff : 2 ≤ off) :
    Calls Tryz.prog 165 #[.pointer (some ⟨D, 0, none⟩), .pointer (some ⟨R, 0, none⟩), .pointer (some ⟨X, 0, none⟩)] w fun e w' => e = .returned (.tuple #[]) ∧
      ∃ k, w' = ((w.setCell ⟨B, off + 3, none⟩ (.int .i64 (mixStep seed r % n))).setCell ⟨B, off + 4, none⟩ (.int .u64 (mixStep seed (1000 + r)))).drewN k := by
  have hwr : IntKind.u64.wrap r = r := u64_id hr0 (by omega)
  have hwn : IntKind.u64.wrap n = n := u64_id (by omega) (by omega)
  have hw3 : IntKind.u64.wrap (1000 + r) = 1000 + r := u64_id (by omega) (by omega)
  have hw4 : wrap64 (1000 + r) = 1000 + r := w64_id (by omega) (by omega)
  have hne : ¬ n = 0 := by omega
  have hm0 : 0 ≤ mixStep seed r := mixStep_nn seed r
  obtain ⟨pv, hpv⟩ : ∃ pv, mixStep seed r % n = pv := ⟨_, rfl⟩
  have hlo := Int.emod_nonneg (mixStep seed r) hne
  have hhi := Int.emod_lt_of_pos (mixStep seed r) hn0
  have htm : (mixStep seed r).tmod n = mixStep seed r % n := Int.tmod_eq_emod_of_nonneg hm0
  rw [hpv] at hlo hhi htm ⊢
  have hwm : wrap64 pv = pv := w64_id hlo (by omega)
  have hwi : IntKind.i64.wrap pv = pv := by rw [IntKind.wrap_i64]; omega
  clear hlo hhi hm0 hpv
  have kD : (w.setCell ⟨B, off + 3, none⟩ (.int .i64 pv)).cell? ⟨D, 0, none⟩ = some (.pointer (some ⟨B, 0, none⟩)) := (World.cell?_setCell_other w _ _ _ (by simp)).trans hD
  have kR : (w.setCell ⟨B, off + 3, none⟩ (.int .i64 pv)).cell? ⟨R, 0, none⟩ = some (.int .i64 r) := (World.cell?_setCell_other w _ _ _ (by simp)).trans hR
  have kX : (w.setCell ⟨B, off + 3, none⟩ (.int .i64 pv)).cell? ⟨X, 0, none⟩ = some (.pointer (some ⟨B, off, none⟩)) := (World.cell?_setCell_other w _ _ _ (by simp)).trans hX
  have k0 : (w.setCell ⟨B, off + 3, none⟩ (.int .i64 pv)).cell? ⟨B, 0, none⟩ = some (.int .u64 seed) := (World.cell?_setCell_other w _ _ _ (by simp)).trans h0
  have k4 : (w.setCell ⟨B, off + 3, none⟩ (.int .i64 pv)).cell? ⟨B, off + 4, none⟩ = some x4 := (World.cell?_setCell_other w _ _ _ (by simp)).trans h4
  go_enter Tryz.func165, Tryz.ntmps165
  go_wp2_with fail
  refine wp_region_still_tail 17 (by kernel_rfl) (by kernel_rfl) ?_
  simp only [List.take_succ_cons, List.take_zero, List.drop_succ_cons, List.drop_zero]
  repeat (first | still_step | still_call (step_any _ _ _))
  refine wpStill_nil ?_
  change wpList _ _ _ _ _ w.drew
  go_wp2
  obtain ⟨W1, hW⟩ : ∃ W1, (w.setCell ⟨B, off + 3, none⟩ (.int .i64 pv)).drew = W1 := ⟨_, rfl⟩
  have jf : W1.frozen? ⟨B, off + 4, none⟩ = false := by rw [← hW]; simp [f4]
  replace kD : W1.cell? ⟨D, 0, none⟩ = some (.pointer (some ⟨B, 0, none⟩)) := by rw [← hW, World.cell?_drew]; exact kD
  replace kR : W1.cell? ⟨R, 0, none⟩ = some (.int .i64 r) := by rw [← hW, World.cell?_drew]; exact kR
  replace kX : W1.cell? ⟨X, 0, none⟩ = some (.pointer (some ⟨B, off, none⟩)) := by rw [← hW, World.cell?_drew]; exact kX
  replace k0 : W1.cell? ⟨B, 0, none⟩ = some (.int .u64 seed) := by rw [← hW, World.cell?_drew]; exact k0
  replace k4 : W1.cell? ⟨B, off + 4, none⟩ = some x4 := by rw [← hW, World.cell?_drew]; exact k4
  rw [hW]
  replace hW := Lib.hid hW
  refine wp_region_still_tail 11 (by kernel_rfl) (by kernel_rfl) ?_
  simp only [List.take_succ_cons, List.take_zero, List.drop_succ_cons, List.drop_zero]
  repeat (first | still_step | still_call (step_any _ _ _))
  refine wpStill_nil ?_
  change wpList _ _ _ _ _ W1.drew
  go_wp2
  go_end0
  refine ⟨rfl, 2, ?_⟩
  rw [← (show (w.setCell ⟨B, off + 3, none⟩ (.int .i64 pv)).drew = W1 from hW)]
  rfl
end Go.Proofs.YtaohkcdfjjiggaaGreat
/-! Shuffles: sync.Once's roads. -/
namespace Go.Proofs.YtaohkcdfjjiggaaGreat
open Go.RowKit
theorem grown_setC (w : World) (a : Addr) (u : Value) : w.grownBy (w.setCell a u) (some a.block) :=
  ⟨rfl, rfl, rfl, by simp, fun k _ hk => heap_setCell_other w a k u (fun e => hk (by rw [e]))⟩
/-- A round that has been worked out; nothing else is otherwise. -/
def Patched (w w' : World) (B off : Nat) (pv sg : Value) : Prop :=
  w.grownBy w' (some B) ∧ (∀ j, w'.frozen? ⟨B, j, none⟩ = w.frozen? ⟨B, j, none⟩) ∧ ∀ j, w'.cell? ⟨B, j, none⟩ = if j = off then some (.int .u32 1) else if j = off + 3 then some pv else if j = off + 4 then some sg else w.cell? ⟨B, j, none⟩
theorem cell_set (w : World) (B i j : Nat) (v x : Value) (h : w.cell? ⟨B, i, none⟩ = some x) : (w.setCell ⟨B, i, none⟩ v).cell? ⟨B, j, none⟩ = if j = i then some v else w.cell? ⟨B, j, none⟩ := by
  by_cases e : j = i
  · rw [if_pos e, e]; exact World.cell?_setCell_same w _ _ h
  · rw [if_neg e]; exact World.cell?_setCell_other w _ _ _ (fun h => e (by cases h; rfl))
theorem patched_mk {w : World} {B off : Nat} {k : Nat} {pv sg x0 x3 x4 : Value} (h0 : w.cell? ⟨B, off, none⟩ = some x0) (h1 : w.cell? ⟨B, off + 1, none⟩ = some (.int .i32 0))
    (h3 : w.cell? ⟨B, off + 3, none⟩ = some x3) (h4 : w.cell? ⟨B, off + 4, none⟩ = some x4) :
    Patched w ((((((w.setCell ⟨B, off + 1, none⟩ (.int .i32 1)).setCell ⟨B, off + 3, none⟩ pv).setCell ⟨B, off + 4, none⟩ sg).drewN k).drew.setCell ⟨B, off, none⟩ (.int .u32 1)).setCell ⟨B, off + 1, none⟩ (.int .i32 0)) B off pv sg := by
  refine ⟨?_, fun j => ?_, fun j => ?_⟩
  · have g1 := grown_setC w ⟨B, off + 1, none⟩ (.int .i32 1)
    have g2 := g1.trans (grown_setC _ ⟨B, off + 3, none⟩ pv)
    have g3 := g2.trans (grown_setC _ ⟨B, off + 4, none⟩ sg)
    generalize ((w.setCell ⟨B, off + 1, none⟩ (.int .i32 1)).setCell ⟨B, off + 3, none⟩ pv).setCell ⟨B, off + 4, none⟩ sg = W at g3 ⊢
    have g4 : w.grownBy (W.drewN k).drew (some B) := ⟨g3.os, g3.tape, g3.output, g3.size, g3.block⟩
    exact (g4.trans (grown_setC _ ⟨B, off, none⟩ (.int .u32 1))).trans (grown_setC _ ⟨B, off + 1, none⟩ (.int .i32 0))
  · simp
  · have e1 := fun j => cell_set w B (off + 1) j (.int .i32 1) _ h1
    generalize w.setCell ⟨B, off + 1, none⟩ (.int .i32 1) = W1 at e1 ⊢
    have e3 := fun j => cell_set W1 B (off + 3) j pv x3 (by rw [e1, if_neg (by omega)]; exact h3)
    generalize W1.setCell ⟨B, off + 3, none⟩ pv = W3 at e3 ⊢
    have e4 := fun j => cell_set W3 B (off + 4) j sg x4 (by rw [e3, if_neg (by omega), e1, if_neg (by omega)]; exact h4)
    generalize W3.setCell ⟨B, off + 4, none⟩ sg = W4 at e4 ⊢
    have e5 : ∀ j, (W4.drewN k).drew.cell? ⟨B, j, none⟩ = W4.cell? ⟨B, j, none⟩ := fun _ => rfl
    generalize (W4.drewN k).drew = W5 at e5 ⊢
    have e6 := fun j => cell_set W5 B off j (.int .u32 1) x0 (by rw [e5, e4, if_neg (by omega), e3, if_neg (by omega), e1, if_neg (by omega)]; exact h0)
    generalize W5.setCell ⟨B, off, none⟩ (.int .u32 1) = W6 at e6 ⊢
    have e7 := cell_set W6 B (off + 1) j (.int .i32 0) (.int .i32 1) (by rw [e6, if_neg (by omega), e5, e4, if_neg (by omega), e3, if_neg (by omega), e1, if_pos rfl])
    rw [e7, e6, e5, e4, e3, e1]
    by_cases d0 : j = off
    · rw [if_neg (by omega), if_pos d0, if_pos d0]
    · by_cases d1 : j = off + 1
      · rw [if_pos d1, if_neg d0, if_neg (by omega), if_neg (by omega), d1, h1]
      · rw [if_neg d1, if_neg d0, if_neg d0]
        by_cases d3 : j = off + 3
        · rw [if_neg (by omega), if_pos d3, if_pos d3]
        · by_cases d4 : j = off + 4
          · rw [if_pos d4, if_neg d3, if_pos d4]
          · rw [if_neg d4, if_neg d3, if_neg d1, if_neg d3, if_neg d4]
set_option maxRecDepth 100000 in
set_option maxHeartbeats 1600000 in
theorem slow_any (B D R X : Nat) (off : Nat) (r seed n : Int) (x3 x4 : Value) (w : World) (hr0 : 0 ≤ r) (hr1 : r < 10) (hn0 : 0 < n) (hn1 : n ≤ 1000)
    (hD : w.cell? ⟨D, 0, none⟩ = some (.pointer (some ⟨B, 0, none⟩))) (hR : w.cell? ⟨R, 0, none⟩ = some (.int .i64 r)) (hX : w.cell? ⟨X, 0, none⟩ = some (.pointer (some ⟨B, off, none⟩)))
    (h0 : w.cell? ⟨B, 0, none⟩ = some (.int .u64 seed)) (h1 : w.cell? ⟨B, 1, none⟩ = some (.int .i64 n))
    (ho : w.cell? ⟨B, off, none⟩ = some (.int .u32 0)) (hs : w.cell? ⟨B, off + 1, none⟩ = some (.int .i32 0))
    (h3 : w.cell? ⟨B, off + 3, none⟩ = some x3) (h4 : w.cell? ⟨B, off + 4, none⟩ = some x4)
    (fo : w.frozen? ⟨B, off, none⟩ = false) (fs : w.frozen? ⟨B, off + 1, none⟩ = false) (f3 : w.frozen? ⟨B, off + 3, none⟩ = false) (f4 : w.frozen? ⟨B, off + 4, none⟩ = false)
    (hDB : D ≠ B) (hRB : R ≠ B) (hXB : X ≠ B) (hoff : 2 ≤ off) :
    Calls Tryz.prog 172 #[.pointer (some ⟨B, off, none⟩), .func (.func 165) #[] #[.pointer (some ⟨D, 0, none⟩), .pointer (some ⟨R, 0, none⟩), .pointer (some ⟨X, 0, none⟩)]] w fun e w' => e = .returned (.tuple #[]) ∧
      Patched w w' B off (.int .i64 (mixStep seed r % n)) (.int .u64 (mixStep seed (1000 + r))) := by
  have c1 : ∀ (b j : Nat) (x : Value), w.cell? ⟨b, j, none⟩ = some x → (b ≠ B ∨ j ≠ off + 1) → (w.setCell ⟨B, off + 1, none⟩ (.int .i32 1)).cell? ⟨b, j, none⟩ = some x := fun b j x h hne => by
    rw [← h]; exact World.cell?_setCell_other w _ _ _ (by simp; omega)
  have hl := bload_any ⟨B, off, none⟩ 0 (w.setCell ⟨B, off + 1, none⟩ (.int .i32 1)) (c1 _ _ _ ho (by omega))
  have hg := get1_any B D R X off r seed n x3 x4 (w.setCell ⟨B, off + 1, none⟩ (.int .i32 1)) hr0 hr1 hn0 hn1 (c1 _ _ _ hD (by omega)) (c1 _ _ _ hR (by omega)) (c1 _ _ _ hX (by omega)) (c1 _ _ _ h0 (by omega)) (c1 _ _ _ h1 (by omega)) (c1 _ _ _ h3 (by omega)) (c1 _ _ _ h4 (by omega)) (by simp [f3]) (by simp [f4]) hDB hRB hXB hoff
  have hnot : ∀ (x : Bool) (w : World), (Op.unary .not (.bool x)).run Tryz.prog w = .ok (.bool (!x)) w := fun _ _ => rfl
  go_enter_defers Tryz.func172, Tryz.ntmps172
  go_wp2_with (go_at_call 175; refine (Go.MuLone.lock_free muLib ⟨B, off + 1, none⟩ _ hs fs).mono ?_; rintro e w' ⟨rfl, rfl⟩)
  go_wp2_with (first | (go_at_call 171; refine hl.mono ?_; rintro e w' ⟨rfl, rfl⟩) | (go_at_call 165; refine hg.mono ?_; rintro e w' ⟨rfl, k, rfl⟩))
  have e1 := fun j => cell_set w B (off + 1) j (.int .i32 1) _ hs
  have e3 := fun j => cell_set (w.setCell ⟨B, off + 1, none⟩ (.int .i32 1)) B (off + 3) j (.int .i64 (mixStep seed r % n)) x3 (by rw [e1, if_neg (by omega)]; exact h3)
  have e4 := fun j => cell_set ((w.setCell ⟨B, off + 1, none⟩ (.int .i32 1)).setCell ⟨B, off + 3, none⟩ (.int .i64 (mixStep seed r % n))) B (off + 4) j (.int .u64 (mixStep seed (1000 + r))) x4 (by rw [e3, if_neg (by omega), e1, if_neg (by omega)]; exact h4)
  have hp := patched_mk (k := k) (pv := .int .i64 (mixStep seed r % n)) (sg := .int .u64 (mixStep seed (1000 + r))) ho hs h3 h4
  have fo' : ((((w.setCell ⟨B, off + 1, none⟩ (.int .i32 1)).setCell ⟨B, off + 3, none⟩ (.int .i64 (mixStep seed r % n))).setCell ⟨B, off + 4, none⟩ (.int .u64 (mixStep seed (1000 + r)))).drewN k).frozen? ⟨B, off, none⟩ = false := by simp [fo]
  have fs' : ((((w.setCell ⟨B, off + 1, none⟩ (.int .i32 1)).setCell ⟨B, off + 3, none⟩ (.int .i64 (mixStep seed r % n))).setCell ⟨B, off + 4, none⟩ (.int .u64 (mixStep seed (1000 + r)))).drewN k).frozen? ⟨B, off + 1, none⟩ = false := by simp [fs]
  have e5 : ∀ j, ((((w.setCell ⟨B, off + 1, none⟩ (.int .i32 1)).setCell ⟨B, off + 3, none⟩ (.int .i64 (mixStep seed r % n))).setCell ⟨B, off + 4, none⟩ (.int .u64 (mixStep seed (1000 + r)))).drewN k).cell? ⟨B, j, none⟩ = _ := fun j => e4 j
  have co := e5 off
  rw [if_neg (by omega), e3, if_neg (by omega), e1, if_neg (by omega), ho] at co
  have cs := e5 (off + 1)
  rw [if_neg (by omega), e3, if_neg (by omega), e1, if_pos rfl] at cs
  generalize (((w.setCell ⟨B, off + 1, none⟩ (.int .i32 1)).setCell ⟨B, off + 3, none⟩ (.int .i64 (mixStep seed r % n))).setCell ⟨B, off + 4, none⟩ (.int .u64 (mixStep seed (1000 + r)))).drewN k = W at co cs fo' fs' hp ⊢
  clear e1 e3 e4 e5 hg hl c1
  refine leaves_cons (f := 177) (args := #[.pointer (some ⟨B, off, none⟩), .bool true]) (by simp) (by simp [go_sem]) ?_
  refine (bstore_deferred ⟨B, off, none⟩ (.int .u32 0) .returning _ co fo').mono ?_
  rintro e u' w'' ⟨rfl, rfl, rfl⟩
  refine leaves_cons (f := 176) (args := #[.pointer (some ⟨B, off + 1, none⟩)]) (by simp [settle]) (by simp [go_sem]) ?_
  refine (Go.MuLone.unlock_deferred muLib ⟨B, off + 1, none⟩ _ _ ?_ (by simp [fs'])).mono ?_
  · exact (World.cell?_setCell_other _ ⟨B, off, none⟩ ⟨B, off + 1, none⟩ _ (by simp)).trans cs
  rintro e u' w'' ⟨rfl, rfl, rfl⟩
  refine ⟨_, results_none rfl _ _ _, rfl, hp⟩
set_option maxRecDepth 100000 in
set_option maxHeartbeats 1600000 in
theorem once_first (B D R X : Nat) (off : Nat) (r seed n : Int) (x3 x4 : Value) (w : World) (hr0 : 0 ≤ r) (hr1 : r < 10) (hn0 : 0 < n) (hn1 : n ≤ 1000)
    (hD : w.cell? ⟨D, 0, none⟩ = some (.pointer (some ⟨B, 0, none⟩))) (hR : w.cell? ⟨R, 0, none⟩ = some (.int .i64 r)) (hX : w.cell? ⟨X, 0, none⟩ = some (.pointer (some ⟨B, off, none⟩)))
    (h0 : w.cell? ⟨B, 0, none⟩ = some (.int .u64 seed)) (h1 : w.cell? ⟨B, 1, none⟩ = some (.int .i64 n))
    (ho : w.cell? ⟨B, off, none⟩ = some (.int .u32 0)) (hs : w.cell? ⟨B, off + 1, none⟩ = some (.int .i32 0))
    (h3 : w.cell? ⟨B, off + 3, none⟩ = some x3) (h4 : w.cell? ⟨B, off + 4, none⟩ = some x4)
    (fo : w.frozen? ⟨B, off, none⟩ = false) (fs : w.frozen? ⟨B, off + 1, none⟩ = false) (f3 : w.frozen? ⟨B, off + 3, none⟩ = false) (f4 : w.frozen? ⟨B, off + 4, none⟩ = false)
    (hDB : D ≠ B) (hRB : R ≠ B) (hXB : X ≠ B) (hoff : 2 ≤ off) :
    Calls Tryz.prog 164 #[.pointer (some ⟨B, off, none⟩), .func (.func 165) #[] #[.pointer (some ⟨D, 0, none⟩), .pointer (some ⟨R, 0, none⟩), .pointer (some ⟨X, 0, none⟩)]] w fun e w' => e = .returned (.tuple #[]) ∧
      Patched w w' B off (.int .i64 (mixStep seed r % n)) (.int .u64 (mixStep seed (1000 + r))) := by
  have hl := bload_any ⟨B, off, none⟩ 0 w ho
  have hg := slow_any B D R X off r seed n x3 x4 w hr0 hr1 hn0 hn1 hD hR hX h0 h1 ho hs h3 h4 fo fs f3 f4 hDB hRB hXB hoff
  have hnot : ∀ (x : Bool) (w : World), (Op.unary .not (.bool x)).run Tryz.prog w = .ok (.bool (!x)) w := fun _ _ => rfl
  go_enter Tryz.func164, Tryz.ntmps164
  go_wp2_with (first | (go_at_call 171; refine hl.mono ?_; rintro e w' ⟨rfl, rfl⟩) | (go_at_call 172; refine hg.mono ?_; rintro e w' ⟨rfl, hp⟩))
  go_end0
  exact ⟨rfl, hp⟩
theorem once_done (a : Addr) (fv : Value) (w : World) (h0 : w.cell? a = some (.int .u32 1)) :
    Calls Tryz.prog 164 #[.pointer (some a), fv] w fun e w' => e = .returned (.tuple #[]) ∧ w' = w := by
  have hl := bload_any a 1 w h0
  have hnot : ∀ (x : Bool) (w : World), (Op.unary .not (.bool x)).run Tryz.prog w = .ok (.bool (!x)) w := fun _ _ => rfl
  go_enter Tryz.func164, Tryz.ntmps164
  go_wp2_with (go_at_call 171; refine hl.mono ?_; rintro e w' ⟨rfl, rfl⟩)
  go_end0
  exact ⟨rfl, rfl⟩
end Go.Proofs.YtaohkcdfjjiggaaGreat
/-! Shuffles: the deck, and one of its rounds. -/
namespace Go.Proofs.YtaohkcdfjjiggaaGreat
open Go.RowKit
/-- A deck in memory. -/
structure DeckC (w : World) (B : Nat) (seed n asked : Int) : Prop where
  lt : B < w.heap.size
  fz : ∀ j, j < 53 → w.frozen? ⟨B, j, none⟩ = false
  c0 : w.cell? ⟨B, 0, none⟩ = some (.int .u64 seed)
  c1 : w.cell? ⟨B, 1, none⟩ = some (.int .i64 n)
  ca : w.cell? ⟨B, 52, none⟩ = some (.int .i64 asked)
  lk : ∀ r : Nat, r < 10 → w.cell? ⟨B, 2 + 5 * r + 1, none⟩ = some (.int .i32 0)
  dn : ∀ r : Nat, r < 10 → (w.cell? ⟨B, 2 + 5 * r, none⟩ = some (.int .u32 0) ∧ (∃ x, w.cell? ⟨B, 2 + 5 * r + 3, none⟩ = some x) ∧ ∃ x, w.cell? ⟨B, 2 + 5 * r + 4, none⟩ = some x) ∨
    (w.cell? ⟨B, 2 + 5 * r, none⟩ = some (.int .u32 1) ∧ w.cell? ⟨B, 2 + 5 * r + 3, none⟩ = some (.int .i64 (mixStep seed r % n)) ∧ w.cell? ⟨B, 2 + 5 * r + 4, none⟩ = some (.int .u64 (mixStep seed (1000 + r))))
theorem DeckC.kept {w w' : World} {B : Nat} {seed n asked : Int} {row : Option Nat} (h : DeckC w B seed n asked) (hg : w.grownBy w' row) (hne : some B ≠ row) : DeckC w' B seed n asked := by
  have hc : ∀ j, w'.cell? ⟨B, j, none⟩ = w.cell? ⟨B, j, none⟩ := fun j => World.cell?_of_block (w := w) (hg.block B h.lt hne)
  have hf : ∀ j, w'.frozen? ⟨B, j, none⟩ = w.frozen? ⟨B, j, none⟩ := fun j => World.frozen?_of_block (w := w) (hg.block B h.lt hne)
  exact ⟨Nat.lt_of_lt_of_le h.lt hg.size, fun j hj => by rw [hf]; exact h.fz j hj, by rw [hc]; exact h.c0, by rw [hc]; exact h.c1, by rw [hc]; exact h.ca, fun r hr => by rw [hc]; exact h.lk r hr, fun r hr => by rw [hc, hc, hc]; exact h.dn r hr⟩
theorem DeckC.patched {w w' : World} {B : Nat} {seed n asked : Int} {r : Nat} (h : DeckC w B seed n asked) (hr : r < 10) (hp : Patched w w' B (2 + 5 * r) (.int .i64 (mixStep seed r % n)) (.int .u64 (mixStep seed (1000 + r)))) : DeckC w' B seed n asked := by
  obtain ⟨hg, hf, hc⟩ := hp
  refine ⟨Nat.lt_of_lt_of_le h.lt hg.size, fun j hj => by rw [hf]; exact h.fz j hj, ?_, ?_, ?_, fun q hq => ?_, fun q hq => ?_⟩
  · rw [hc, if_neg (by omega), if_neg (by omega), if_neg (by omega)]; exact h.c0
  · rw [hc, if_neg (by omega), if_neg (by omega), if_neg (by omega)]; exact h.c1
  · rw [hc, if_neg (by omega), if_neg (by omega), if_neg (by omega)]; exact h.ca
  · rw [hc, if_neg (by omega), if_neg (by omega), if_neg (by omega)]; exact h.lk q hq
  · by_cases e : q = r
    · subst e
      right
      refine ⟨?_, ?_, ?_⟩
      · rw [hc, if_pos rfl]
      · rw [hc, if_neg (by omega), if_pos rfl]
      · rw [hc, if_neg (by omega), if_neg (by omega), if_pos rfl]
    · rw [hc, hc, hc, if_neg (by omega), if_neg (by omega), if_neg (by omega), if_neg (by omega), if_neg (by omega), if_neg (by omega), if_neg (by omega), if_neg (by omega), if_neg (by omega)]
      exact h.dn q hq
theorem DeckC.asked {w : World} {B : Nat} {seed n asked : Int} (h : DeckC w B seed n asked) (x : Int) : DeckC (w.setCell ⟨B, 52, none⟩ (.int .i64 x)) B seed n x := by
  have hc := fun j => cell_set w B 52 j (.int .i64 x) _ h.ca
  refine ⟨by simpa using h.lt, fun j hj => by simpa using h.fz j hj, ?_, ?_, ?_, fun q hq => ?_, fun q hq => ?_⟩
  · rw [hc, if_neg (by omega)]; exact h.c0
  · rw [hc, if_neg (by omega)]; exact h.c1
  · rw [hc, if_pos rfl]
  · rw [hc, if_neg (by omega)]; exact h.lk q hq
  · rw [hc, hc, hc, if_neg (by omega), if_neg (by omega), if_neg (by omega)]
    exact h.dn q hq
/-- A round's cells. -/
def RoundC (w : World) (B r : Nat) (seed n : Int) : Prop := w.cell? ⟨B, 2 + 5 * r + 3, none⟩ = some (.int .i64 (mixStep seed r % n)) ∧ w.cell? ⟨B, 2 + 5 * r + 4, none⟩ = some (.int .u64 (mixStep seed (1000 + r)))
theorem once_any (B D R X : Nat) (r : Nat) (seed n asked : Int) (w : World) (hr : r < 10) (hn0 : 0 < n) (hn1 : n ≤ 1000) (h : DeckC w B seed n asked)
    (hD : w.cell? ⟨D, 0, none⟩ = some (.pointer (some ⟨B, 0, none⟩))) (hR : w.cell? ⟨R, 0, none⟩ = some (.int .i64 r)) (hX : w.cell? ⟨X, 0, none⟩ = some (.pointer (some ⟨B, 2 + 5 * r, none⟩)))
    (hDB : D ≠ B) (hRB : R ≠ B) (hXB : X ≠ B) :
    Calls Tryz.prog 164 #[.pointer (some ⟨B, 2 + 5 * r, none⟩), .func (.func 165) #[] #[.pointer (some ⟨D, 0, none⟩), .pointer (some ⟨R, 0, none⟩), .pointer (some ⟨X, 0, none⟩)]] w fun e w' => e = .returned (.tuple #[]) ∧
      DeckC w' B seed n asked ∧ RoundC w' B r seed n ∧ w.grownBy w' (some B) := by
  rcases h.dn r hr with ⟨ho, ⟨x3, h3⟩, x4, h4⟩ | ⟨ho, h3, h4⟩
  · refine (once_first B D R X (2 + 5 * r) r seed n x3 x4 w (by omega) (by omega) hn0 hn1 hD hR hX h.c0 h.c1 ho (h.lk r hr) h3 h4 (h.fz _ (by omega)) (h.fz _ (by omega)) (h.fz _ (by omega)) (h.fz _ (by omega)) hDB hRB hXB (by omega)).mono ?_
    rintro e w' ⟨rfl, hp⟩
    refine ⟨rfl, h.patched hr hp, ⟨?_, ?_⟩, hp.1⟩
    · rw [hp.2.2, if_neg (by omega), if_pos rfl]
    · rw [hp.2.2, if_neg (by omega), if_neg (by omega), if_pos rfl]
  · refine (once_done _ _ w ho).mono ?_
    rintro e w' ⟨rfl, rfl⟩
    exact ⟨rfl, h, ⟨h3, h4⟩, ⟨rfl, rfl, rfl, Nat.le_refl _, fun _ _ _ => rfl⟩⟩
set_option maxRecDepth 100000 in
set_option maxHeartbeats 1600000 in
theorem get_any (B : Nat) (r : Nat) (seed n asked : Int) (w : World) (hr : r < 10) (hn0 : 0 < n) (hn1 : n ≤ 1000) (h : DeckC w B seed n asked) :
    Calls Tryz.prog 150 #[.pointer (some ⟨B, 0, none⟩), .int .i64 r] w fun e w' => e = .returned (.pointer (some ⟨B, 2 + 5 * r, none⟩)) ∧
      DeckC w' B seed n (wrap64 (asked + 1)) ∧ RoundC w' B r seed n ∧ w.grownBy w' (some B) := by
  go_enter Tryz.func150, Tryz.ntmps150
  go_wp2_with fail
  have c1 : ((w.alloc (.cells #[.pointer (some ⟨B, 0, none⟩)] 122)).alloc (.cells #[.int .i64 r] 3)).cell? ⟨w.heap.size, 0, none⟩ = some (.pointer (some ⟨B, 0, none⟩)) := by
    rw [World.cell?_alloc_past _ _ _ (by simp)]; simp
  have c2 : ((w.alloc (.cells #[.pointer (some ⟨B, 0, none⟩)] 122)).alloc (.cells #[.int .i64 r] 3)).cell? ⟨w.heap.size + 1, 0, none⟩ = some (.int .i64 r) := by simp
  have hg : w.grownBy ((w.alloc (.cells #[.pointer (some ⟨B, 0, none⟩)] 122)).alloc (.cells #[.int .i64 r] 3)) none := (World.grownBy_alloc _ _ _).trans (World.grownBy_alloc _ _ _)
  have hsz : ((w.alloc (.cells #[.pointer (some ⟨B, 0, none⟩)] 122)).alloc (.cells #[.int .i64 r] 3)).heap.size = w.heap.size + 2 := by simp
  generalize (w.alloc (.cells #[.pointer (some ⟨B, 0, none⟩)] 122)).alloc (.cells #[.int .i64 r] 3) = W at c1 c2 hg hsz ⊢
  have hd := h.kept hg (by simp)
  have hr0 : ¬ (r : Int) < 0 := by omega
  have hr1 : (r : Int) < 10 := by omega
  go_region
  rw [show 2 + r * 5 = 2 + 5 * r by omega]
  have hbl := hd.lt
  have hbw := h.lt
  have d1 : (W.alloc (.cells #[.pointer (some ⟨B, 2 + 5 * r, none⟩)] 185)).drew.cell? ⟨w.heap.size, 0, none⟩ = some (.pointer (some ⟨B, 0, none⟩)) := by
    rw [World.cell?_drew, World.cell?_alloc_past _ _ _ (by show w.heap.size < W.heap.size; omega)]; exact c1
  have d2 : (W.alloc (.cells #[.pointer (some ⟨B, 2 + 5 * r, none⟩)] 185)).drew.cell? ⟨w.heap.size + 1, 0, none⟩ = some (.int .i64 r) := by
    rw [World.cell?_drew, World.cell?_alloc_past _ _ _ (by show w.heap.size + 1 < W.heap.size; omega)]; exact c2
  have d3 : (W.alloc (.cells #[.pointer (some ⟨B, 2 + 5 * r, none⟩)] 185)).drew.cell? ⟨w.heap.size + 2, 0, none⟩ = some (.pointer (some ⟨B, 2 + 5 * r, none⟩)) := by
    rw [World.cell?_drew, ← hsz]; simp
  have hg2 : W.grownBy (W.alloc (.cells #[.pointer (some ⟨B, 2 + 5 * r, none⟩)] 185)).drew none := (World.grownBy_alloc W _ none).trans ⟨rfl, rfl, rfl, Nat.le_refl _, fun _ _ _ => rfl⟩
  have hsz2 : (W.alloc (.cells #[.pointer (some ⟨B, 2 + 5 * r, none⟩)] 185)).drew.heap.size = w.heap.size + 3 := by simp [hsz]
  generalize (W.alloc (.cells #[.pointer (some ⟨B, 2 + 5 * r, none⟩)] 185)).drew = W2 at d1 d2 d3 hg2 hsz2 ⊢
  have hd2 := hd.kept hg2 (by simp)
  have hgg : w.grownBy W2 none := hg.trans hg2
  clear c1 c2 hg hsz hg2 hd h
  have hmf : ∀ (fn : Fn) (first cap : Array Value) (w : World), (Instr.makeFunc fn first cap).run Tryz.prog w = .ok (.func fn first cap) w := fun _ _ _ _ => rfl
  have ho := once_any B w.heap.size (w.heap.size + 1) (w.heap.size + 2) r seed n asked W2 hr hn0 hn1 hd2 d1 d2 d3 (by omega) (by omega) (by omega)
  have hfin : ∀ w3 : World, W2.grownBy w3 (some B) → DeckC w3 B seed n asked → RoundC w3 B r seed n →
      w3.cell? ⟨w.heap.size, 0, none⟩ = some (.pointer (some ⟨B, 0, none⟩)) ∧ (w3.setCell ⟨B, 52, none⟩ (.int .i64 (wrap64 (asked + 1)))).cell? ⟨w.heap.size + 2, 0, none⟩ = some (.pointer (some ⟨B, 2 + 5 * r, none⟩)) ∧
      DeckC (w3.setCell ⟨B, 52, none⟩ (.int .i64 (wrap64 (asked + 1)))) B seed n (wrap64 (asked + 1)) ∧ RoundC (w3.setCell ⟨B, 52, none⟩ (.int .i64 (wrap64 (asked + 1)))) B r seed n ∧ w.grownBy (w3.setCell ⟨B, 52, none⟩ (.int .i64 (wrap64 (asked + 1)))) (some B) := fun w3 hg3 hd3 hr3 => by
    have c1 := (World.cell?_of_block (w := W2) (a := ⟨w.heap.size, 0, none⟩) (hg3.block w.heap.size (by omega) (by intro e; cases e; omega))).trans d1
    have c3 := (World.cell?_of_block (w := W2) (a := ⟨w.heap.size + 2, 0, none⟩) (hg3.block (w.heap.size + 2) (by omega) (by intro e; cases e; omega))).trans d3
    have hc := fun j => cell_set w3 B 52 j (.int .i64 (wrap64 (asked + 1))) _ hd3.ca
    refine ⟨c1, (World.cell?_setCell_other w3 ⟨B, 52, none⟩ ⟨w.heap.size + 2, 0, none⟩ _ (fun e => by cases e)).trans c3, hd3.asked _, ⟨?_, ?_⟩, ?_⟩
    · rw [hc, if_neg (by omega)]; exact hr3.1
    · rw [hc, if_neg (by omega)]; exact hr3.2
    · have h1 : w.grownBy W2 (some B) := ⟨hgg.os, hgg.tape, hgg.output, hgg.size, fun k hk _ => hgg.block k hk (by simp)⟩
      exact (h1.trans hg3).trans (grown_setC _ _ _)
  replace hfin := Lib.hid hfin
  go_wp2_with (first | (go_at_call 164; refine ho.mono ?_; rintro e w3 ⟨rfl, hd3, hr3, hg3⟩; obtain ⟨c1, c4, hd4, hr4, hg4⟩ := hfin w3 hg3 hd3 hr3; have ha := iadd_any ⟨B, 52, none⟩ asked w3 hd3.ca (hd3.fz _ (by omega)); clear hg3 hr3 hd3) | (go_at_call 166; refine ha.mono ?_; rintro e w4 ⟨rfl, rfl⟩))
  go_ret
  exact ⟨rfl, hd4, hr4, hg4⟩
end Go.Proofs.YtaohkcdfjjiggaaGreat
/-! Shuffles: where a round, and all rounds, take a place. -/
namespace Go.Proofs.YtaohkcdfjjiggaaGreat
open Go.RowKit
set_option maxRecDepth 100000 in
set_option maxHeartbeats 1600000 in
theorem turn_any (B : Nat) (r : Nat) (seed n asked i : Int) (w : World) (hr : r < 10) (hn0 : 0 < n) (hn1 : n ≤ 1000) (hi0 : 0 ≤ i) (hi1 : i < n) (h : DeckC w B seed n asked) :
    Calls Tryz.prog 123 #[.pointer (some ⟨B, 0, none⟩), .int .i64 r, .int .i64 i] w fun e w' => e = .returned (.int .i64 (shufRound seed n r i)) ∧
      DeckC w' B seed n (wrap64 (asked + 1)) ∧ w.grownBy w' (some B) := by
  have hg := get_any B r seed n asked w hr hn0 hn1 h
  have hne : ¬ n = 0 := by omega
  have hlo := Int.emod_nonneg (mixStep seed r) hne
  have hhi := Int.emod_lt_of_pos (mixStep seed r) hn0
  unfold RoundC at hg
  unfold shufRound
  dsimp only
  generalize mixStep seed r % n = pv at hg hlo hhi ⊢
  have h1 : wrap64 (pv + n) = pv + n := w64_id (by omega) (by omega)
  have h2 : wrap64 (pv + n - i) = pv + n - i := w64_id (by omega) (by omega)
  have h1' : IntKind.i64.wrap (pv + n) = pv + n := by rw [IntKind.wrap_i64]; omega
  have h2' : IntKind.i64.wrap (pv + n - i) = pv + n - i := by rw [IntKind.wrap_i64]; omega
  have h3 : (pv + n - i).tmod n = (pv + n - i) % n := Int.tmod_eq_emod_of_nonneg (by omega)
  have hm0 := Int.emod_nonneg (pv + n - i) hne
  have hm1 := Int.emod_lt_of_pos (pv + n - i) hn0
  obtain ⟨mate, hmate⟩ : ∃ m, (pv + n - i) % n = m := ⟨_, rfl⟩
  rw [hmate] at h3 hm0 hm1 ⊢
  have h4 : wrap64 mate = mate := w64_id hm0 (by omega)
  have h5 : IntKind.u64.wrap mate = mate := u64_id hm0 (by omega)
  obtain ⟨mx, hmx⟩ : ∃ m, (if i < mate then mate else i) = m := ⟨_, rfl⟩
  have hx0 : 0 ≤ mx ∧ mx < n := by rw [← hmx]; split <;> omega
  have h6 : IntKind.u64.wrap mx = mx := u64_id hx0.1 (by omega)
  have hmax : max i mate = mx := by rw [← hmx, Int.max_def]; split <;> split <;> omega
  rw [hmx]
  have hb1 : ∀ x : Int, bits BinOp.and IntKind.u64 (mixStep (mixStep seed (1000 + r)) x) 1 = mixStep (mixStep seed (1000 + r)) x % 2 := fun x => by
    obtain ⟨k, hk, e⟩ := mixWord_nat (IntKind.u64.wrap (bits BinOp.xor IntKind.u64 (mixStep seed (1000 + r)) x + 11400714819323198485))
    unfold mixStep at e ⊢
    rw [e]
    have h := u64_and_nat k 1 hk (by omega)
    rw [Nat.and_one_is_mod] at h
    exact h.trans (by omega)
  have hbit : mixStep (mixStep seed (1000 + r)) mx % 2 = 1 ∨ mixStep (mixStep seed (1000 + r)) mx % 2 = 0 := by omega
  have hbv := hb1 mx
  clear hmate hlo hhi hmx hx0 hb1 h hm0 hm1
  rcases hbit with hx | hx
  · rw [if_pos hx]
    rw [hx] at hbv
    clear hx
    go_enter Tryz.func123, Tryz.ntmps123
    go_wp2_with (go_at_call 150; refine hg.mono ?_; rintro e w' ⟨rfl, hd, ⟨e3, e4⟩, hgr⟩; have e1 := hd.c1)
    go_still (by kernel_rfl)
    change Exit.then _ _ _ _ w'.drew
    have e3' : w'.drew.cell? ⟨B, 2 + 5 * r + 3, none⟩ = some (.int .i64 pv) := e3
    have e4' : w'.drew.cell? ⟨B, 2 + 5 * r + 4, none⟩ = some (.int .u64 (mixStep seed (1000 + r))) := e4
    replace hd := hd.kept (row := none) (w' := w'.drew) ⟨rfl, rfl, rfl, Nat.le_refl _, fun _ _ _ => rfl⟩ (by simp)
    replace hgr : w.grownBy w'.drew (some B) := ⟨hgr.os, hgr.tape, hgr.output, hgr.size, hgr.block⟩
    clear e3 e4 e1 h1 h2 h1' h2' h3
    generalize w'.drew = W at e3' e4' hd hgr ⊢
    go_wp2_with (go_at_call 57; refine (step_any _ _ _).mono ?_; rintro e w' ⟨rfl, rfl⟩)
    go_ret
    exact ⟨rfl, hd, hgr⟩
  · rw [if_neg (by omega)]
    rw [hx] at hbv
    clear hx
    go_enter Tryz.func123, Tryz.ntmps123
    go_wp2_with (go_at_call 150; refine hg.mono ?_; rintro e w' ⟨rfl, hd, ⟨e3, e4⟩, hgr⟩; have e1 := hd.c1)
    go_still (by kernel_rfl)
    change Exit.then _ _ _ _ w'.drew
    have e3' : w'.drew.cell? ⟨B, 2 + 5 * r + 3, none⟩ = some (.int .i64 pv) := e3
    have e4' : w'.drew.cell? ⟨B, 2 + 5 * r + 4, none⟩ = some (.int .u64 (mixStep seed (1000 + r))) := e4
    replace hd := hd.kept (row := none) (w' := w'.drew) ⟨rfl, rfl, rfl, Nat.le_refl _, fun _ _ _ => rfl⟩ (by simp)
    replace hgr : w.grownBy w'.drew (some B) := ⟨hgr.os, hgr.tape, hgr.output, hgr.size, hgr.block⟩
    clear e3 e4 e1 h1 h2 h1' h2' h3
    generalize w'.drew = W at e3' e4' hd hgr ⊢
    go_wp2_with (go_at_call 57; refine (step_any _ _ _).mono ?_; rintro e w' ⟨rfl, rfl⟩)
    go_ret
    exact ⟨rfl, hd, hgr⟩
end Go.Proofs.YtaohkcdfjjiggaaGreat
/-! Shuffles: where all rounds take a place; all of them. -/
namespace Go.Proofs.YtaohkcdfjjiggaaGreat
open Go.RowKit
set_option maxRecDepth 100000 in
set_option maxHeartbeats 1600000 in
theorem at_any (B : Nat) (seed n asked i : Int) (w : World) (hn0 : 0 < n) (hn1 : n ≤ 1000) (hi0 : 0 ≤ i) (hi1 : i < n) (ha0 : 0 ≤ asked) (ha1 : asked ≤ 100000) (h : DeckC w B seed n asked) :
    Calls Tryz.prog 93 #[.pointer (some ⟨B, 0, none⟩), .int .i64 i] w fun e w' => e = .returned (.int .i64 (shufAt seed n i)) ∧
      DeckC w' B seed n (asked + 10) ∧ w.grownBy w' (some B) := by
  go_enter Tryz.func93, Tryz.ntmps93
  go_wp2_with fail
  go_loopw [1, 5, 6] (fun x _ c wr => ∃ k : Nat, k ≤ 10 ∧ c = .int .i64 k ∧ x = .int .i64 (shufTo seed n k i) ∧ DeckC wr B seed n (asked + k) ∧ w.grownBy wr (some B)) (fun _ _ c _ => 10 - (intOf c).toNat)
  case atStart => exact ⟨0, by omega, rfl, rfl, by simpa using h, ⟨rfl, rfl, rfl, Nat.le_refl _, fun _ _ _ => rfl⟩⟩
  case round =>
    obtain ⟨k, hk, rfl, rfl, hd, hg⟩ := hrel
    by_cases hlt : k < 10
    · have hb := shufTo_bd (seed := seed) hn0 hi0 hi1 k
      have hw : wrap64 (asked + k + 1) = asked + (k + 1 : Nat) := by rw [w64_id (by omega) (by omega)]; omega
      have ht := turn_any B k seed n (asked + k) (shufTo seed n k i) wr hlt hn0 hn1 hb.1 hb.2 hd
      rw [hw] at ht
      clear hw
      go_wp2_with (go_at_call 123; refine ht.mono ?_; rintro e w' ⟨rfl, hd', hg'⟩)
      go_roundw
      case rel => exact ⟨k + 1, hlt, by go_num, rfl, hd', hg.trans hg'⟩
      case measure => simp [intOf]; omega
    · obtain rfl : k = 10 := by omega
      go_wp2_with fail
      go_ret
      exact ⟨rfl, hd, hg⟩
end Go.Proofs.YtaohkcdfjjiggaaGreat
/-! Shuffles: all places. -/
namespace Go.Proofs.YtaohkcdfjjiggaaGreat
open Go.RowKit
theorem flatMap_set1 (u : Int) : ∀ (xs : List Int) (i : Nat), i < xs.length → (xs.set i u).flatMap encI = (xs.flatMap encI).set i (.int .i64 u)
  | [], i, hi => by simp at hi
  | y :: xs, 0, hi => by simp [encI]
  | y :: xs, i + 1, hi => by
    have := flatMap_set1 u xs i (by simpa using hi)
    simp only [List.set_cons_succ, List.flatMap_cons, this]
    simp [encI]
theorem Own.blkI {α : Type} {w : World} {base : Nat} {e : TypeId} {k : Nat} {enc : α → List Value} {g n cap : Nat} {xs : List α} (h : Own w base e k enc (.slice (some ⟨g, 0, none⟩) n cap) xs) :
    ∃ cur, w.heap[g]? = some (.cells cur e (0, 0)) ∧ base ≤ g ∧ n = xs.length ∧ n ≤ cap ∧ cap ≤ maxLen ∧ cur.size = cap * k ∧ cur.toList.take (n * k) = xs.flatMap enc := by
  obtain ⟨h1, h2⟩ := h
  rcases h2 with ⟨he, _⟩ | ⟨g', cap', cur, he, hb, hh, hle, hm, hs, ht⟩
  · cases he
  · injection he with e1 e2 e3
    injection e1 with e1
    injection e1 with e1
    subst e1; subst e3; subst e2
    exact ⟨cur, hh, hb, rfl, hle, hm, hs, ht⟩
theorem Own.setI {w : World} {base : Nat} {e : TypeId} {g n cap : Nat} {xs : List Int} (h : Own w base e 1 encI (.slice (some ⟨g, 0, none⟩) n cap) xs) {i : Nat} (hi : i < xs.length) (u : Int) :
    Own (w.setCell ⟨g, i, none⟩ (.int .i64 u)) base e 1 encI (.slice (some ⟨g, 0, none⟩) n cap) (xs.set i u) := by
  obtain ⟨cur, hh, hb, rfl, hle, hm, hs, ht⟩ := h.blkI
  refine ⟨flatMap_len encI_len _, .inr ⟨g, cap, cur.setIfInBounds i (.int .i64 u), by simp, hb, Go.heap_setCell_same w g _ cur e _ hh, by simpa using hle, hm, by simpa using hs, ?_⟩⟩
  rw [List.length_set, flatMap_set1 u xs i hi, ← ht, Array.toList_setIfInBounds, List.take_set]
theorem madeI_own (w : World) (n base : Nat) (hb : base ≤ w.heap.size) (hn : n ≤ 1000) : Own (w.alloc (.cells (madeCells #[.int .i64 0] n) 3)) base 3 1 encI (.slice (some ⟨w.heap.size, 0, none⟩) n n) (List.replicate n 0) := by
  have hl : (List.replicate n (0 : Int)).length = n := by simp
  have hm : (madeCells #[Value.int .i64 0] n).toList = List.replicate n (Value.int .i64 0) := by
    unfold madeCells
    apply List.ext_getElem?
    intro i
    by_cases h : i < n
    · simp [h, Nat.mod_one]
    · simp [h]
  refine ⟨by rw [flatMap_len encI_len], .inr ⟨w.heap.size, n, madeCells #[.int .i64 0] n, by rw [hl], hb, ha_at rfl, by rw [hl]; exact Nat.le_refl _, by unfold maxLen; omega, by rw [size_madeCells]; omega, ?_⟩⟩
  rw [hl, hm, Nat.mul_one]
  rw [List.take_of_length_le (by simp)]
  induction n with
  | zero => rfl
  | succ n _ => simp [encI, List.replicate_succ, List.flatMap_replicate]
theorem smay_any (n : Nat) (h1 : 1 ≤ n) (h2 : n ≤ 1000) (w : World) :
    Calls Tryz.prog 92 #[.int .i64 n, .int .i64 0] w fun e w' => e = .returned (.bool true) ∧ w' = w := by
  have e1 : decide ((0 : Int) < n) = true := by simp; omega
  have e2 : decide ((n : Int) ≤ 1000) = true := by simp; omega
  have e3 : decide ((n : Int) > 0) = true := by simp; omega
  go_enter Tryz.func92, Tryz.ntmps92
  go_wp2
  go_ret
  exact ⟨rfl, rfl⟩
def deckCells (seed n : Int) : Array Value := #[Value.int .u64 seed, Value.int .i64 n, Value.int .u32 0, Value.int .i32 0, Value.int .u32 0, Value.int .i64 0, Value.int .u64 0, Value.int .u32 0, Value.int .i32 0, Value.int .u32 0, Value.int .i64 0, Value.int .u64 0, Value.int .u32 0, Value.int .i32 0, Value.int .u32 0, Value.int .i64 0, Value.int .u64 0, Value.int .u32 0, Value.int .i32 0, Value.int .u32 0, Value.int .i64 0, Value.int .u64 0, Value.int .u32 0, Value.int .i32 0, Value.int .u32 0, Value.int .i64 0, Value.int .u64 0, Value.int .u32 0, Value.int .i32 0, Value.int .u32 0, Value.int .i64 0, Value.int .u64 0, Value.int .u32 0, Value.int .i32 0, Value.int .u32 0, Value.int .i64 0, Value.int .u64 0, Value.int .u32 0, Value.int .i32 0, Value.int .u32 0, Value.int .i64 0, Value.int .u64 0, Value.int .u32 0, Value.int .i32 0, Value.int .u32 0, Value.int .i64 0, Value.int .u64 0, Value.int .u32 0, Value.int .i32 0, Value.int .u32 0, Value.int .i64 0, Value.int .u64 0, Value.int .i64 0]
theorem deck_new {w W : World} (seed n : Int) (h : W.heap[w.heap.size]? = some (.cells (deckCells seed n) 142 (0, 0))) : DeckC W w.heap.size seed n 0 := by
  have hc := fun j => blk_cell h j
  refine ⟨lt_of_block h, fun j _ => blk_free h j, hc 0, hc 1, hc 52, fun r hr => ?_, fun r hr => .inl ?_⟩
  · rw [hc]
    match r, hr with
    | 0, _ => rfl
    | 1, _ => rfl
    | 2, _ => rfl
    | 3, _ => rfl
    | 4, _ => rfl
    | 5, _ => rfl
    | 6, _ => rfl
    | 7, _ => rfl
    | 8, _ => rfl
    | 9, _ => rfl
  · rw [hc, hc, hc]
    match r, hr with
    | 0, _ => exact ⟨rfl, ⟨_, rfl⟩, _, rfl⟩
    | 1, _ => exact ⟨rfl, ⟨_, rfl⟩, _, rfl⟩
    | 2, _ => exact ⟨rfl, ⟨_, rfl⟩, _, rfl⟩
    | 3, _ => exact ⟨rfl, ⟨_, rfl⟩, _, rfl⟩
    | 4, _ => exact ⟨rfl, ⟨_, rfl⟩, _, rfl⟩
    | 5, _ => exact ⟨rfl, ⟨_, rfl⟩, _, rfl⟩
    | 6, _ => exact ⟨rfl, ⟨_, rfl⟩, _, rfl⟩
    | 7, _ => exact ⟨rfl, ⟨_, rfl⟩, _, rfl⟩
    | 8, _ => exact ⟨rfl, ⟨_, rfl⟩, _, rfl⟩
    | 9, _ => exact ⟨rfl, ⟨_, rfl⟩, _, rfl⟩
/-- The places, by where they go. -/
def permTo (seed : Int) (n : Nat) (k : Nat) : List Int := (List.range n).map fun i => if i < k then shufAt seed n i else 0
theorem permTo_len (seed : Int) (n k : Nat) : (permTo seed n k).length = n := by simp [permTo]
theorem permTo_zero (seed : Int) (n : Nat) : permTo seed n 0 = List.replicate n 0 := by
  apply List.ext_getElem (by simp [permTo])
  intro i h1 h2
  simp [permTo]
theorem permTo_step {seed : Int} {n k : Nat} : (permTo seed n k).set k (shufAt seed n k) = permTo seed n (k + 1) := by
  apply List.ext_getElem (by simp [permTo])
  intro i h1 h2
  rw [List.getElem_set]
  by_cases e : k = i
  · subst e; simp [permTo]
  · simp only [e, if_false, permTo, List.getElem_map, List.getElem_range]
    by_cases e2 : i < k
    · rw [if_pos e2, if_pos (by omega)]
    · rw [if_neg e2, if_neg (by omega)]
set_option maxRecDepth 100000 in
set_option maxHeartbeats 1600000 in
theorem perm_any (seed : Int) (n : Nat) (h1 : 1 ≤ n) (h2 : n ≤ 1000) (w : World) :
    Calls Tryz.prog 56 #[.int .u64 seed, .int .i64 n] w fun e w' => ∃ v, e = .returned v ∧ Own w' w.heap.size 3 1 encI v (permTo seed n n) ∧ Below w.heap.size w w' := by
  have hmk : ∀ V, (Instr.makeSlice 22 (.int .i64 n) (.int .i64 n)).run Tryz.prog V = .ok (.slice (some ⟨V.heap.size, 0, none⟩) n n) (V.alloc (.cells (madeCells #[.int .i64 0] n) 3)) := fun V => by
    obtain ⟨i0, hi0, hz0, hz1, hz2⟩ := info_parts (show (Tryz.prog.info? 3).map (fun i => (i.zero, i.size, i.bytes)) = some (some (.int .i64 0), 1, 8) by kernel_rfl)
    have := run_make (P := Tryz.prog) V 22 3 i0 (.int .i64 0) Tryz.underlying22 hi0 hz0 .i64 .i64 n n (by omega) (Int.le_refl _) (by rw [hz2]; omega) (by omega)
    rw [hz1, show (Value.int .i64 0).cells = #[Value.int .i64 0] from rfl] at this
    simpa using this
  go_enter Tryz.func56, Tryz.ntmps56
  go_wp2_with (go_at_call 92; refine (smay_any n h1 h2 _).mono ?_; rintro e w' ⟨rfl, rfl⟩)
  have hd0 := deck_new (w := w') (W := (w'.alloc (.cells (deckCells seed n) 142)).alloc (.cells (madeCells #[.int .i64 0] n) 3)) seed n (ha_lt (ha_at rfl))
  have ho0 := madeI_own (w'.alloc (.cells (deckCells seed n) 142)) n w'.heap.size (by simp) h2
  have hb0 : Below w'.heap.size w' ((w'.alloc (.cells (deckCells seed n) 142)).alloc (.cells (madeCells #[.int .i64 0] n) 3)) := ((Below.refl _ w').alloc (Nat.le_refl _) _).alloc (by simp) _
  rw [World.size_alloc] at ho0
  unfold deckCells at hd0 ho0 hb0
  generalize (w'.alloc (.cells _ 142)).alloc (.cells (madeCells #[.int .i64 0] n) 3) = V0 at hd0 ho0 hb0 ⊢
  obtain ⟨B, hB⟩ : ∃ B, w'.heap.size = B := ⟨_, rfl⟩
  rw [hB] at hd0 ho0 hb0 ⊢
  clear hmk
  go_loopw [7, 19] (fun _ c wr => ∃ k : Nat, k ≤ n ∧ c = .int .i64 k ∧ DeckC wr B seed n (10 * (k : Int)) ∧ Own wr B 3 1 encI (.slice (some ⟨B + 1, 0, none⟩) n n) (permTo seed n k) ∧ Below B w' wr) (fun _ c _ => n - (intOf c).toNat)
  case atStart => exact ⟨0, by omega, rfl, hd0, by rw [permTo_zero]; exact ho0, hb0⟩
  case round =>
    clear hd0 ho0 hb0
    obtain ⟨k, hk, rfl, hd, ho, hb⟩ := hrel
    have hsz := hb.size
    by_cases hlt : k < n
    · have ha := at_any B seed n (10 * (k : Int)) k wr (by omega) (by omega) (by omega) (by omega) (by omega) (by omega) hd
      have hst : ∀ W : World, DeckC W B seed n (10 * (k : Int) + 10) → wr.grownBy W (some B) → (W.cell? ⟨B + 1, k, none⟩).isSome = true ∧ W.frozen? ⟨B + 1, k, none⟩ = false ∧
          DeckC (W.setCell ⟨B + 1, k, none⟩ (.int .i64 (shufAt seed n k))) B seed n (10 * ((k + 1 : Nat) : Int)) ∧ Own (W.setCell ⟨B + 1, k, none⟩ (.int .i64 (shufAt seed n k))) B 3 1 encI (.slice (some ⟨B + 1, 0, none⟩) n n) (permTo seed n (k + 1)) ∧ Below B w' (W.setCell ⟨B + 1, k, none⟩ (.int .i64 (shufAt seed n k))) := fun W hd' hg => by
        have ho' : Own W B 3 1 encI (.slice (some ⟨B + 1, 0, none⟩) n n) (permTo seed n k) := ho.grown hg (.inr (by simp [Value.ownBlock]))
        obtain ⟨cur, hcur, _, _, hle, _, hcs, _⟩ := ho'.blkI
        have hs := ho'.setI (i := k) (by rw [permTo_len]; exact hlt) (shufAt seed n k)
        rw [permTo_step] at hs
        have hd2 := hd'.kept (grown_setC W ⟨B + 1, k, none⟩ (.int .i64 (shufAt seed n k))) (by simp)
        rw [show 10 * (k : Int) + 10 = 10 * ((k + 1 : Nat) : Int) by omega] at hd2
        refine ⟨?_, blk_free hcur k, hd2, hs, (hb.grown hg (by omega) (fun j e => by cases e; exact Nat.le_refl _)).setCell (p := ⟨B + 1, k, none⟩) (by simp) _⟩
        rw [blk_cell hcur k, Array.getElem?_eq_getElem (by omega)]
        rfl
      go_wp2_with (go_at_call 93; refine ha.mono ?_; clear ha; rintro e W ⟨rfl, hd', hg⟩; obtain ⟨hcs, hfz, hd3, ho3, hb3⟩ := hst W hd' hg; obtain ⟨x, hx⟩ := Option.isSome_iff_exists.1 hcs; clear hcs hst)
      go_roundw
      case rel => exact ⟨k + 1, hlt, by go_num, hd3, ho3, hb3⟩
      case measure => simp [intOf]; omega
    · obtain rfl : k = n := by omega
      have hl := iload_any ⟨B, 52, none⟩ _ wr hd.ca
      have hnl : decide (10 * (k : Int) < k) = false := by simp; omega
      go_wp2_with (go_at_call 94; refine hl.mono ?_; rintro e W ⟨rfl, rfl⟩)
      go_ret
      exact ⟨_, rfl, by rw [hB]; exact ho, by rw [hB]; exact hb⟩
end Go.Proofs.YtaohkcdfjjiggaaGreat
