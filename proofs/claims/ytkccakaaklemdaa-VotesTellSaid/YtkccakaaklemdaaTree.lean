/- Trees of blocks: what May, Chain, Kids and Under tell, in plain words. -/
import Derived.Test.YtkccakaaklemdaaChain
namespace Go.Proofs.Ytkccakaaklemdaa
def Okb (pre : List Blk) (b : Blk) : Prop :=
  nameOf b ≠ zid ∧ (∀ c ∈ pre, nameOf c ≠ nameOf b) ∧ ((b.par = zid ∧ 0 < b.slot) ∨ (b.par ≠ zid ∧ ∃ c ∈ pre, nameOf c = b.par ∧ c.slot < b.slot))
/-- Blocks that may be. -/
def Tree (l : List Blk) : Prop := ∀ i (h : i < l.length), Okb (l.take i) l[i]
def mOf (bs : List Blk) : List (ID × Int) := (zid, -1) :: bs.zipIdx.map fun p => (nameOf p.1, (p.2 : Int))
theorem mget_zero (bs : List Blk) : mget (mOf bs) zid = some (-1) := by simp [mget, mOf]
theorem mget_zip (bs : List Blk) (x : ID) (n : Nat) : mget ((bs.zipIdx n).map fun p => (nameOf p.1, (p.2 : Int))) x = (bs.findIdx? fun b => decide (nameOf b = x)).map fun i => ((i + n : Nat) : Int) := by
  induction bs generalizing n with
  | nil => simp [mget]
  | cons b bs ih =>
    by_cases h : nameOf b = x
    · simp [mget, List.findIdx?_cons, h]
    · have e : mget (((b :: bs).zipIdx n).map fun p => (nameOf p.1, (p.2 : Int))) x = mget ((bs.zipIdx (n + 1)).map fun p => (nameOf p.1, (p.2 : Int))) x := by simp [mget, h]
      rw [e, ih]
      simp only [List.findIdx?_cons, h, decide_false, Bool.false_eq_true, if_false, Option.map_map]
      congr 1
      funext i
      simp only [Function.comp]
      omega
theorem mget_mOf (bs : List Blk) {x : ID} (hx : x ≠ zid) : mget (mOf bs) x = (bs.findIdx? fun b => decide (nameOf b = x)).map (fun i : Nat => (i : Int)) := by
  have e : mget (mOf bs) x = mget (bs.zipIdx.map fun p => (nameOf p.1, (p.2 : Int))) x := by simp [mget, mOf, Ne.symm hx]
  rw [e, mget_zip]
  rfl
theorem mOf_snoc (bs : List Blk) (b : Blk) : mOf (bs ++ [b]) = mOf bs ++ [(nameOf b, (bs.length : Int))] := by
  simp [mOf, List.zipIdx_append]
theorem mget_mem {bs : List Blk} {x : ID} : (mget (mOf bs) x).isSome ↔ x = zid ∨ ∃ c ∈ bs, nameOf c = x := by
  by_cases hx : x = zid
  · subst hx; simp [mget_zero]
  · rw [mget_mOf bs hx, Option.isSome_map, List.findIdx?_isSome]
    simp [hx]
theorem tree_snoc {l : List Blk} {k : Nat} (hk : k < l.length) : Tree (l.take (k + 1)) ↔ Tree (l.take k) ∧ Okb (l.take k) l[k] := by
  constructor
  · intro h
    refine ⟨fun i hi => ?_, ?_⟩
    · have hi' : i < (l.take (k + 1)).length := by simp at hi ⊢; omega
      have := h i hi'
      simp only [List.take_take, List.getElem_take] at this ⊢
      simp at hi
      rw [Nat.min_eq_left (by omega)] at this ⊢
      exact this
    · have := h k (by simp; omega)
      simpa [List.take_take] using this
  · rintro ⟨h1, h2⟩ i hi
    simp only [List.length_take] at hi
    by_cases he : i = k
    · subst he
      simpa [List.take_take] using h2
    · have := h1 i (by simp; omega)
      simp only [List.take_take, List.getElem_take] at this ⊢
      rw [Nat.min_eq_left (by omega)] at this ⊢
      exact this
theorem tree_inj {l : List Blk} (ht : Tree l) {i j : Nat} (hi : i < l.length) (hj : j < l.length) (h : nameOf l[i] = nameOf l[j]) : i = j := by
  rcases Nat.lt_trichotomy i j with hlt | he | hlt
  · exact absurd h ((ht j hj).2.1 l[i] (List.mem_take_iff_getElem.2 ⟨i, by omega, rfl⟩))
  · exact he
  · exact absurd h.symm ((ht i hi).2.1 l[j] (List.mem_take_iff_getElem.2 ⟨j, by omega, rfl⟩))
theorem plStep_ok {l : List Blk} {k : Nat} (hk : k < l.length) (ht : Tree (l.take k)) : plStep l (mOf (l.take k)) k l[k] = some (mOf (l.take (k + 1))) ∧ Okb (l.take k) l[k] ∨ plStep l (mOf (l.take k)) k l[k] = none ∧ ¬ Okb (l.take k) l[k] := by
  have hnm : (mget (mOf (l.take k)) (nameOf l[k])).isSome = true ↔ nameOf l[k] = zid ∨ ∃ c ∈ l.take k, nameOf c = nameOf l[k] := mget_mem
  have hput : mget (mOf (l.take k)) (nameOf l[k]) = none → mput (mOf (l.take k)) (nameOf l[k]) (k : Int) = mOf (l.take (k + 1)) := by
    intro h
    rw [← List.take_append_getElem hk, mOf_snoc]
    unfold mput
    rw [h]
    simp
    omega
  have hfin : ∀ p, mget (mOf (l.take k)) l[k].par = some p → (slotAt l p < l[k].slot ↔ ((l[k].par = zid ∧ 0 < l[k].slot) ∨ (l[k].par ≠ zid ∧ ∃ c ∈ l.take k, nameOf c = l[k].par ∧ c.slot < l[k].slot))) →
      plStep l (mOf (l.take k)) k l[k] = some (mOf (l.take (k + 1))) ∧ Okb (l.take k) l[k] ∨ plStep l (mOf (l.take k)) k l[k] = none ∧ ¬ Okb (l.take k) l[k] := by
    intro p hp hiff
    unfold plStep
    simp only [hp]
    by_cases hs : l[k].slot ≤ slotAt l p
    · right
      rw [if_pos hs]
      refine ⟨rfl, fun ho => ?_⟩
      have := hiff.2 ho.2.2
      omega
    · rw [if_neg hs]
      cases hn : mget (mOf (l.take k)) (nameOf l[k]) with
      | some y =>
        right
        refine ⟨rfl, fun ho => ?_⟩
        rcases hnm.1 (by rw [hn]; rfl) with h | ⟨c, hc, h⟩
        · exact ho.1 h
        · exact ho.2.1 c hc h
      | none =>
        left
        refine ⟨by simp [hput hn], fun h => ?_, fun c hc h => ?_, hiff.1 (by omega)⟩
        · have := hnm.2 (.inl h); rw [hn] at this; cases this
        · have := hnm.2 (.inr ⟨c, hc, h⟩); rw [hn] at this; cases this
  by_cases hz : l[k].par = zid
  · refine hfin (-1) (by rw [hz]; exact mget_zero _) ?_
    simp [slotAt, hz]
  · cases hf : (l.take k).findIdx? fun b => decide (nameOf b = l[k].par) with
    | none =>
      right
      have hp : mget (mOf (l.take k)) l[k].par = none := by rw [mget_mOf _ hz, hf]; rfl
      refine ⟨by unfold plStep; rw [hp], fun ho => ?_⟩
      rcases ho.2.2 with h | ⟨_, c, hc, h, _⟩
      · exact hz h.1
      · rw [List.findIdx?_eq_none_iff] at hf
        have := hf c hc
        simp [h] at this
    | some j =>
      have hp : mget (mOf (l.take k)) l[k].par = some (j : Int) := by rw [mget_mOf _ hz, hf]; rfl
      rw [List.findIdx?_eq_some_iff_getElem] at hf
      obtain ⟨hj, hjn, _⟩ := hf
      simp only [decide_eq_true_eq] at hjn
      have hjk : j < k := by simp at hj; omega
      have hjl : j < l.length := by omega
      have hsl : slotAt l (j : Int) = l[j].slot := by unfold slotAt; simp [hjl]
      refine hfin j hp ?_
      rw [hsl]
      constructor
      · intro h
        exact .inr ⟨hz, (l.take k)[j], List.getElem_mem _, hjn, by simpa using h⟩
      · rintro (h | ⟨_, c, hc, h, hs⟩)
        · exact absurd h.1 hz
        · obtain ⟨i, hi, rfl⟩ := List.getElem_of_mem hc
          have : i = j := tree_inj ht hi hj (by rw [h, hjn])
          subst this
          simpa using hs
theorem plGo_tree {l : List Blk} (d : Nat) : ∀ k, l.length - k = d → k ≤ l.length → Tree (l.take k) → plGo l (l.drop k) k (mOf (l.take k)) = some (mOf l) ∧ Tree l ∨ plGo l (l.drop k) k (mOf (l.take k)) = none ∧ ¬ Tree l := by
  induction d with
  | zero =>
    intro k hd hk ht
    obtain rfl : k = l.length := by omega
    left
    rw [List.drop_length, List.take_length] at *
    exact ⟨rfl, ht⟩
  | succ d ih =>
    intro k hd hk ht
    have hlt : k < l.length := by omega
    rw [plGo_drop hlt]
    rcases plStep_ok hlt ht with ⟨h1, h2⟩ | ⟨h1, h2⟩
    · rw [h1]
      exact ih (k + 1) (by omega) hlt ((tree_snoc hlt).2 ⟨ht, h2⟩)
    · rw [h1]
      right
      exact ⟨rfl, fun h => h2 (h k hlt)⟩
theorem plc_tree (l : List Blk) : plc l = some (mOf l) ∧ Tree l ∨ plc l = none ∧ ¬ Tree l :=
  plGo_tree l.length 0 (by omega) (Nat.zero_le _) (fun i h => by simp at h)
theorem plc_some {l : List Blk} {m : List (ID × Int)} (h : plc l = some m) : m = mOf l ∧ Tree l := by
  rcases plc_tree l with ⟨h1, h2⟩ | ⟨h1, h2⟩
  · rw [h1] at h; cases h; exact ⟨rfl, h2⟩
  · rw [h1] at h; cases h
theorem plc_yes {l : List Blk} (h : Tree l) : plc l = some (mOf l) := by
  rcases plc_tree l with ⟨h1, h2⟩ | ⟨h1, h2⟩
  · exact h1
  · exact absurd h h2
theorem plc_no {l : List Blk} (h : ¬ Tree l) : plc l = none := by
  rcases plc_tree l with ⟨h1, h2⟩ | ⟨h1, h2⟩
  · exact absurd h2 h
  · exact h1
/-- Where a key is, is what it names. -/
theorem mget_at {bs : List Blk} {x : ID} {i : Int} (h : mget (mOf bs) x = some i) : (x = zid ∧ i = -1) ∨ (x ≠ zid ∧ ∃ n : Nat, i = n ∧ ∃ hn : n < bs.length, nameOf bs[n] = x) := by
  by_cases hx : x = zid
  · subst hx; rw [mget_zero] at h; cases h; exact .inl ⟨rfl, rfl⟩
  · rw [mget_mOf bs hx] at h
    obtain ⟨n, hn, rfl⟩ := Option.map_eq_some_iff.1 h
    rw [List.findIdx?_eq_some_iff_getElem] at hn
    obtain ⟨h1, h2, _⟩ := hn
    exact .inr ⟨hx, n, rfl, h1, by simpa using h2⟩
theorem mget_idx {l : List Blk} (ht : Tree l) {n : Nat} (hn : n < l.length) : mget (mOf l) (nameOf l[n]) = some (n : Int) := by
  rw [mget_mOf _ (ht n hn).1]
  have : l.findIdx? (fun b => decide (nameOf b = nameOf l[n])) = some n := by
    rw [List.findIdx?_eq_some_iff_getElem]
    refine ⟨hn, by simp, fun j hj => ?_⟩
    have : nameOf l[j] ≠ nameOf l[n] := fun e => by have := tree_inj ht (by omega) hn e; omega
    simpa using this
  rw [this]
  rfl
theorem tree_ahead {l : List Blk} {m : List (ID × Int)} (h : plc l = some m) : Ahead l m ∧ ∀ x i, mget m x = some i → -1 ≤ i := by
  obtain ⟨rfl, ht⟩ := plc_some h
  refine ⟨fun x i hi => ?_, fun x i hi => ?_⟩
  · rcases mget_at hi with ⟨_, h⟩ | ⟨hx, n, rfl, hn, hnx⟩
    · exact .inl h
    · right
      refine ⟨by omega, by omega, ?_⟩
      have hp : parAt l (n : Int) = l[n].par := by unfold parAt; simp [hn]
      rw [hp]
      rcases (ht n hn).2.2 with ⟨h1, _⟩ | ⟨_, c, hc, h1, _⟩
      · exact ⟨-1, by rw [h1]; exact mget_zero _, by omega, by omega⟩
      · obtain ⟨j, hj, rfl⟩ := List.getElem_of_mem hc
        simp only [List.length_take] at hj
        have hjl : j < l.length := by omega
        simp only [List.getElem_take] at h1
        exact ⟨j, by rw [← h1]; exact mget_idx ht hjl, by omega, by omega⟩
  · rcases mget_at hi with ⟨_, h⟩ | ⟨_, n, rfl, _⟩ <;> omega
theorem chGo_fuel {l : List Blk} {m : List (ID × Int)} (hA : Ahead l m) : ∀ (f f' : Nat) (x : ID) (j : Int), mget m x = some j → -1 ≤ j → j + 2 ≤ f → j + 2 ≤ f' → chGo l m f x = chGo l m f' x
  | 0, _, _, _, _, h1, h2, _ => by omega
  | _ + 1, 0, _, _, _, h1, _, h3 => by omega
  | f + 1, f' + 1, x, j, hx, h1, h2, h3 => by
    simp only [chGo, hx]
    by_cases hj : j = -1
    · simp [hj]
    · rw [if_neg hj, if_neg hj]
      rcases hA x j hx with e | ⟨_, _, j', hp, hlt, hlo⟩
      · exact absurd e hj
      · rw [chGo_fuel hA f f' _ j' hp hlo (by omega) (by omega)]
theorem chain_zid {l : List Blk} (ht : Tree l) : chain l zid = [zid] := by
  unfold chain
  rw [plc_yes ht]
  simp [mget_zero, chGo]
theorem par_known {l : List Blk} (ht : Tree l) {n : Nat} (hn : n < l.length) : ∃ j, mget (mOf l) l[n].par = some j ∧ -1 ≤ j ∧ j < n := by
  rcases (tree_ahead (plc_yes ht)).1 _ _ (mget_idx ht hn) with e | ⟨_, _, j, h1, h2, h3⟩
  · omega
  · refine ⟨j, ?_, h3, h2⟩
    have hp : parAt l (n : Int) = l[n].par := by unfold parAt; simp [hn]
    rw [← hp]; exact h1
theorem chain_cons {l : List Blk} (ht : Tree l) {n : Nat} (hn : n < l.length) : chain l (nameOf l[n]) = nameOf l[n] :: chain l l[n].par := by
  obtain ⟨j, hj, hlo, hlt⟩ := par_known ht hn
  unfold chain
  rw [plc_yes ht]
  have hx := mget_idx ht hn
  have hp : parAt l (n : Int) = l[n].par := by unfold parAt; simp [hn]
  simp only [hx, hj, Option.isSome_some, if_true]
  rw [show l.length + 1 = l.length + 1 from rfl, chGo]
  simp only [hx]
  rw [if_neg (by omega), hp]
  congr 1
  exact chGo_fuel (tree_ahead (plc_yes ht)).1 _ _ _ j hj hlo (by omega) (by omega)
theorem chain_unknown {l : List Blk} {x : ID} (hx : x ≠ zid) (hn : ∀ b ∈ l, nameOf b ≠ x) : chain l x = [] := by
  apply chain_zero
  rcases plc_tree l with ⟨h1, h2⟩ | ⟨h1, h2⟩
  · refine .inr ⟨_, h1, ?_⟩
    cases hm : mget (mOf l) x with
    | none => rfl
    | some j =>
      have := (mget_mem (bs := l) (x := x)).1 (by rw [hm]; rfl)
      rcases this with e | ⟨c, hc, e⟩
      · exact absurd e hx
      · exact absurd e (hn c hc)
  · exact .inl h1
theorem chain_notree {l : List Blk} (h : ¬ Tree l) (x : ID) : chain l x = [] := chain_zero (.inl (plc_no h))
theorem chain_head {l : List Blk} (ht : Tree l) {x : ID} (hx : x = zid ∨ ∃ b ∈ l, nameOf b = x) : ∃ r, chain l x = x :: r := by
  rcases hx with rfl | ⟨b, hb, rfl⟩
  · exact ⟨_, chain_zid ht⟩
  · obtain ⟨n, hn, rfl⟩ := List.getElem_of_mem hb
    exact ⟨_, chain_cons ht hn⟩
theorem par_mem {l : List Blk} (ht : Tree l) {n : Nat} (hn : n < l.length) : l[n].par = zid ∨ ∃ b ∈ l, nameOf b = l[n].par := by
  rcases (ht n hn).2.2 with h | ⟨_, c, hc, h, _⟩
  · exact .inl h.1
  · exact .inr ⟨c, List.mem_of_mem_take hc, h⟩
end Go.Proofs.Ytkccakaaklemdaa
