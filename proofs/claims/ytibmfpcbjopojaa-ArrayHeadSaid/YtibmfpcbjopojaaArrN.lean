/- How an array is settled anew, from its end (the plain law). -/
import Derived.Test.YtibmfpcbjopojaaGE
namespace Go.Proofs.Ytibmfpcbjopojaa
theorem sumR_le {f : Nat → Int} {n m : Nat} (h : ∀ q, q < n → 0 ≤ f q) (hm : m ≤ n) : sumR f m ≤ sumR f n := by
  induction n with
  | zero => obtain rfl : m = 0 := by omega
            exact Int.le_refl _
  | succ n ih =>
    by_cases e : m = n + 1
    · subst e; exact Int.le_refl _
    · have := ih (fun q hq => h q (by omega)) (by omega)
      have := h n (by omega)
      rw [sumR]
      omega
theorem cut_sum' {a : List Item} (hp : ParOk a) : ∀ m i, a.length = i + m → (∀ k, i ≤ k → k < a.length → WEq a k) → sumR (fun k => if i ≤ k ∧ (itm a k).par < i then (itm a k).w else 0) a.length = sumR (fun k => if i ≤ k then (itm a k).own else 0) a.length := by
  intro m
  induction m with
  | zero =>
    intro i h _
    rw [sumR_zero (fun k hk => if_neg (by omega)), sumR_zero (fun k hk => if_neg (by omega))]
  | succ m ih =>
    intro i h hw
    have hi : i < a.length := by omega
    have h1 := ih (i + 1) (by omega) (fun k hk hl => hw k (by omega) hl)
    have e1 : sumR (fun k => if i ≤ k ∧ (itm a k).par < i then (itm a k).w else 0) a.length = sumR (fun k => if i + 1 ≤ k ∧ (itm a k).par < (i + 1 : Nat) then (itm a k).w else 0) a.length - wsum a i a.length + (itm a i).w := by
      have e2 : (itm a i).w = sumR (fun k => if k = i then (itm a k).w else 0) a.length := by
        rw [sumR_one hi (fun k _ hn => if_neg hn), if_pos rfl]
      rw [e2]
      unfold wsum
      rw [← sumR_sub, ← sumR_add]
      apply sumR_congr
      intro k hk
      have := (hp k hk).2
      by_cases c1 : k = i
      · subst c1
        rw [if_pos ⟨by omega, this⟩, if_neg (by omega), if_neg (by omega), if_pos rfl]; omega
      · by_cases c2 : k < i
        · rw [if_neg (by omega), if_neg (by omega), if_neg (by omega), if_neg c1]; omega
        · by_cases c3 : (itm a k).par = i
          · rw [if_neg (by omega), if_pos (by omega), if_pos c3, if_neg c1]; omega
          · by_cases c4 : (itm a k).par < i
            · rw [if_pos (by omega), if_pos (by omega), if_neg c3, if_neg c1]; omega
            · rw [if_neg (by omega), if_neg (by omega), if_neg c3, if_neg c1]; omega
    have e3 : sumR (fun k => if i ≤ k then (itm a k).own else 0) a.length = sumR (fun k => if i + 1 ≤ k then (itm a k).own else 0) a.length + (itm a i).own := by
      have e2 : (itm a i).own = sumR (fun k => if k = i then (itm a k).own else 0) a.length := by
        rw [sumR_one hi (fun k _ hn => if_neg hn), if_pos rfl]
      rw [e2, ← sumR_add]
      apply sumR_congr
      intro k hk
      by_cases c1 : k = i
      · subst c1; rw [if_pos (by omega), if_neg (by omega), if_pos rfl]; omega
      · by_cases c2 : i + 1 ≤ k
        · rw [if_pos (by omega), if_pos c2, if_neg c1]; omega
        · rw [if_neg (by omega), if_neg c2, if_neg c1]; omega
    have hwi := hw i (Nat.le_refl _) hi
    unfold WEq at hwi
    rw [e1, h1, e3]
    omega
/-- Settled from i on. -/
def SetFrom (b : List Item) (i : Nat) : Prop := ∀ k, i ≤ k → k < b.length → WEq b k ∧ BEq b k
def stage (b : List Item) (i k : Nat) : List Item := b.set i { itm b i with w := (itm b i).own + wsum b i k, best := bestTo b i k, head := if bestTo b i k = -1 then (i : Int) else (itm b (bestTo b i k).toNat).head }
theorem stage_len (b : List Item) (i k : Nat) : (stage b i k).length = b.length := by simp [stage]
theorem stage_at {b : List Item} {i : Nat} (hi : i < b.length) (k : Nat) : itm (stage b i k) i = { itm b i with w := (itm b i).own + wsum b i k, best := bestTo b i k, head := if bestTo b i k = -1 then (i : Int) else (itm b (bestTo b i k).toNat).head } := by
  unfold stage
  rw [itm_set _ _ _ _ hi, if_pos rfl]
theorem stage_ne {b : List Item} {i j : Nat} (hi : i < b.length) (k : Nat) (h : j ≠ i) : itm (stage b i k) j = itm b j := by
  unfold stage
  rw [itm_set _ _ _ _ hi, if_neg h]
theorem low_sum {b : List Item} (hp : ParOk b) {i : Nat} {k : Nat} (hk : k ≤ i + 1) (hl : k ≤ b.length) : wsum b i k = 0 ∧ bestTo b i k = -1 := by
  refine ⟨sumR_zero (fun j hj => if_neg (by have := (hp j (by omega)).2; omega)), bestTo_none.2 (fun j hj => by have := (hp j (by omega)).2; omega)⟩
/-- At the end of the inner loop i is settled. -/
theorem stage_end {b : List Item} (hp : ParOk b) {i : Nat} (hi : i < b.length) (hs : SetFrom b (i + 1)) : SetFrom (stage b i b.length) i := by
  have hl := stage_len b i b.length
  have hat := stage_at hi b.length
  have hne := fun j (h : j ≠ i) => stage_ne (k := b.length) hi h
  generalize stage b i b.length = d at hl hat hne
  have hpar : ∀ k, (itm d k).par = (itm b k).par := fun k => if e : k = i then by subst e; rw [hat] else by rw [hne k e]
  have kid : ∀ p k, i ≤ p → k < b.length → (itm b k).par = ((p : Nat) : Int) → k ≠ i := fun p k hip hk h e => by subst e; have := (hp k hk).2; omega
  have hsum : ∀ p : Nat, i ≤ p → wsum d p d.length = wsum b p b.length := fun p hip => by rw [hl]; exact wsum_congr (fun k _ => by rw [hpar]) (fun k hk h => by rw [hne k (kid p k hip hk (by rw [← hpar]; exact h))])
  have hbst : ∀ p : Nat, i ≤ p → best d p = best b p := fun p hip => by unfold best; rw [hl]; exact bestTo_congr (fun k _ => by rw [hpar]) (fun k hk h => by rw [hne k (kid p k hip hk (by rw [← hpar]; exact h))]; exact ⟨rfl, rfl⟩)
  have hhd : ∀ p : Nat, i ≤ p → headOf d p = headOf b p := fun p hip => headOf_eq (hbst p hip) hl (fun k hk h => by rw [hl] at hk; rw [hne k (kid p k hip hk (by rw [← hpar]; exact h))])
  intro k hik hk
  by_cases e : k = i
  · subst e
    refine ⟨?_, ?_, ?_⟩
    · unfold WEq
      rw [hsum k (Nat.le_refl _), hat]
    · rw [hbst k (Nat.le_refl _), hat]; rfl
    · rw [hhd k (Nat.le_refl _), hat]; rfl
  · obtain ⟨h1, h2, h3⟩ := hs k (by omega) (by omega)
    refine ⟨?_, ?_, ?_⟩
    · unfold WEq at h1 ⊢
      rw [hsum k hik, hne k e, h1]
    · rw [hbst k hik, hne k e, h2]
    · rw [hhd k hik, hne k e, h3]
theorem stage_sk {a b : List Item} {i k : Nat} (hi : i < b.length) (h : SameSk b a) : SameSk (stage b i k) a := by
  obtain ⟨h1, h2⟩ := h
  refine ⟨by rw [stage_len]; exact h1, fun j hj => ?_⟩
  rw [stage_len] at hj
  by_cases e : j = i
  · subst e; rw [stage_at hi]; exact h2 j hj
  · rw [stage_ne hi k e]; exact h2 j hj
theorem SameSk.par {a b : List Item} (h : SameSk b a) (hp : ParOk a) : ParOk b := fun i hi => by rw [(h.2 i hi).2.1]; exact hp i (by rw [← h.1]; exact hi)
theorem SameSk.own {a b : List Item} {B : Int} (h : SameSk b a) (ho : ∀ i, i < a.length → 0 ≤ (itm a i).own ∧ (itm a i).own ≤ B) : ∀ i, i < b.length → 0 ≤ (itm b i).own ∧ (itm b i).own ≤ B := fun i hi => by rw [(h.2 i hi).2.2]; exact ho i (by rw [← h.1]; exact hi)
/-- What has been summed up so far, and each weight behind, is not much. -/
theorem from_bound {b : List Item} {B : Int} (hp : ParOk b) (ho : ∀ i, i < b.length → 0 ≤ (itm b i).own ∧ (itm b i).own ≤ B) {i : Nat} (hi : i < b.length) (hs : SetFrom b (i + 1)) (k : Nat) (hk : k ≤ b.length) :
    (0 ≤ wsum b i k ∧ wsum b i k ≤ b.length * B) ∧ ∀ j, i < j → j < b.length → (itm b j).par = i → 0 ≤ (itm b j).w ∧ (itm b j).w ≤ b.length * B := by
  have hB : 0 ≤ B := by have := ho i hi; omega
  have hn : ∀ m j, i < j → j < b.length → b.length ≤ j + m → 0 ≤ (itm b j).w := by
    intro m
    induction m with
    | zero => intro j h1 h2 h3; omega
    | succ m ih =>
      intro j h1 h2 h3
      rw [(hs j h1 h2).1]
      have := (ho j h2).1
      have : 0 ≤ wsum b j b.length := sumR_nonneg (fun q hq => by
        show 0 ≤ if (itm b q).par = (j : Int) then (itm b q).w else 0
        split
        · rename_i e; have := (hp q hq).2; exact ih q (by omega) hq (by omega)
        · exact Int.le_refl _)
      omega
  have hn' : ∀ j, i < j → j < b.length → 0 ≤ (itm b j).w := fun j h1 h2 => hn b.length j h1 h2 (by omega)
  have hc := cut_sum' hp (b.length - (i + 1)) (i + 1) (by omega) (fun q h1 h2 => (hs q h1 h2).1)
  have hsum : sumR (fun q => if i + 1 ≤ q then (itm b q).own else 0) b.length ≤ b.length * B := sumR_bd (fun q hq => by
    show (if i + 1 ≤ q then (itm b q).own else 0) ≤ B
    split
    · exact (ho q hq).2
    · exact hB) hB
  rw [← hc] at hsum
  have hterm : ∀ q, q < b.length → 0 ≤ (if i + 1 ≤ q ∧ (itm b q).par < ((i + 1 : Nat) : Int) then (itm b q).w else 0) := fun q hq => by
    split
    · rename_i e; exact hn' q (by omega) hq
    · exact Int.le_refl _
  have hle : ∀ n, n ≤ b.length → wsum b i n ≤ sumR (fun q => if i + 1 ≤ q ∧ (itm b q).par < ((i + 1 : Nat) : Int) then (itm b q).w else 0) b.length ∧ 0 ≤ wsum b i n ∧ wsum b i n ≤ sumR (fun q => if i + 1 ≤ q ∧ (itm b q).par < ((i + 1 : Nat) : Int) then (itm b q).w else 0) n := by
    intro n
    induction n with
    | zero => intro _; exact ⟨sumR_nonneg hterm, Int.le_refl _, Int.le_refl _⟩
    | succ n ih =>
      intro hn2
      obtain ⟨_, i2, i3⟩ := ih (by omega)
      have hmono : sumR (fun q => if i + 1 ≤ q ∧ (itm b q).par < ((i + 1 : Nat) : Int) then (itm b q).w else 0) (n + 1) ≤ sumR (fun q => if i + 1 ≤ q ∧ (itm b q).par < ((i + 1 : Nat) : Int) then (itm b q).w else 0) b.length := by
        exact sumR_le hterm hn2
      have hstep : wsum b i (n + 1) = wsum b i n + if (itm b n).par = i then (itm b n).w else 0 := rfl
      have hst2 : sumR (fun q => if i + 1 ≤ q ∧ (itm b q).par < ((i + 1 : Nat) : Int) then (itm b q).w else 0) (n + 1) = sumR (fun q => if i + 1 ≤ q ∧ (itm b q).par < ((i + 1 : Nat) : Int) then (itm b q).w else 0) n + if i + 1 ≤ n ∧ (itm b n).par < ((i + 1 : Nat) : Int) then (itm b n).w else 0 := rfl
      have hpn := (hp n (by omega)).2
      have ht := hterm n (by omega)
      by_cases e : (itm b n).par = i
      · rw [if_pos e] at hstep
        rw [if_pos (by omega)] at hst2 ht
        omega
      · rw [if_neg e] at hstep
        omega
  obtain ⟨l1, l2, _⟩ := hle k hk
  refine ⟨⟨l2, by omega⟩, fun j h1 h2 h3 => ⟨hn' j h1 h2, ?_⟩⟩
  have := sumR_mem (f := fun q => if i + 1 ≤ q ∧ (itm b q).par < ((i + 1 : Nat) : Int) then (itm b q).w else 0) hterm h2
  rw [if_pos (by omega)] at this
  omega
end Go.Proofs.Ytibmfpcbjopojaa
