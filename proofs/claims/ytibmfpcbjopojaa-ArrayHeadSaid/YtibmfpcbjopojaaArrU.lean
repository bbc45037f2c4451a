/- The array of blocks, with votes on them (the plain law). -/
import Derived.Test.YtibmfpcbjopojaaArrT
import Derived.Test.YtibmfpcbjopojaaGA
import Derived.Test.YtibmfpcbjopojaaGC
namespace Go.Proofs.Ytibmfpcbjopojaa
open Go.RowKit
theorem findI_sk {a b : List Item} (h : SameSk a b) (id : ID) : findI a id = findI b id := by
  obtain ⟨hl, hs⟩ := h
  rcases find_spec a id with ⟨h1, h2⟩ | ⟨k, h1, h2, h3, h4⟩
  · rw [h1, find_miss (fun j hj => by rw [← (hs j (by omega)).1]; exact h2 j (by omega))]
  · rw [h2, find_hit (a := b) (k := k) (by omega) (fun j hj => by rw [← (hs j (by omega)).1]; exact h4 j hj) (by rw [← (hs k h1).1]; exact h3)]
def blkA (acc : List Item) (b : Blk) : List Item := acc ++ [bareItem (nameOf b) (findI acc b.par)]
def blocksOf (l : List Blk) : List Item := l.foldl blkA []
def voteOk (W : List Int) (acc : List Item) (x : Vote) : Prop := findI acc x.head ≠ -1 ∧ 0 ≤ x.frm ∧ x.frm < W.length ∧ (itm acc (findI acc x.head).toNat).own + W[x.frm.toNat]?.getD 0 ≤ 1125899906842624
instance (W : List Int) (acc : List Item) (x : Vote) : Decidable (voteOk W acc x) := by unfold voteOk; exact inferInstance
def voteA (W : List Int) (acc : List Item) (x : Vote) : List Item := if voteOk W acc x then moved acc (findI acc x.head).toNat (W[x.frm.toNat]?.getD 0) else acc
def votesOf (W : List Int) (v : List Vote) (acc : List Item) : List Item := v.foldl (voteA W) acc
def FromOk (c : Cfg) (l : List Blk) : Prop := MayC c ∧ Tree l ∧ l.length ≤ 60
def FromP (c : Cfg) (l : List Blk) (v : List Vote) (r : List Item) : Prop := (FromOk c l → Settled r ∧ SameSk r (votesOf c.W v (blocksOf l))) ∧ (¬ FromOk c l → r = [])
/-- A skeleton that may be summed up. -/
def SkOk (a : List Item) : Prop := ParOk a ∧ ∀ i, i < a.length → 0 ≤ (itm a i).own ∧ (itm a i).own ≤ 1125899906842624
theorem take_foldl {α β : Type} (f : β → α → β) (z : β) (l : List α) {k : Nat} (hk : k < l.length) : (l.take (k + 1)).foldl f z = f ((l.take k).foldl f z) l[k] := by
  rw [← List.take_append_getElem hk, List.foldl_append]
  rfl
theorem blocksOf_ok (l : List Blk) : (blocksOf l).length = l.length ∧ ParOk (blocksOf l) ∧ ∀ i, i < (blocksOf l).length → (itm (blocksOf l) i).own = 0 := by
  have key : ∀ k, k ≤ l.length → (blocksOf (l.take k)).length = k ∧ ParOk (blocksOf (l.take k)) ∧ ∀ i, i < (blocksOf (l.take k)).length → (itm (blocksOf (l.take k)) i).own = 0 := by
    intro k
    induction k with
    | zero => intro _; simp [blocksOf, ParOk]
    | succ k ih =>
      intro hk
      obtain ⟨h1, h2, h3⟩ := ih (by omega)
      have e : blocksOf (l.take (k + 1)) = blkA (blocksOf (l.take k)) l[k] := take_foldl blkA [] l (by omega)
      rw [e]
      unfold blkA
      generalize blocksOf (l.take k) = acc at h1 h2 h3
      refine ⟨by simp [h1], fun i hi => ?_, fun i hi => ?_⟩
      · simp at hi
        by_cases e2 : i < acc.length
        · rw [itm_app _ _ _ e2]; exact h2 i e2
        · obtain rfl : i = acc.length := by omega
          rw [itm_new]
          show -1 ≤ findI acc l[k].par ∧ findI acc l[k].par < acc.length
          rcases find_spec acc l[k].par with ⟨h, _⟩ | ⟨q, hq, h, _⟩ <;> omega
      · simp at hi
        by_cases e2 : i < acc.length
        · rw [itm_app _ _ _ e2]; exact h3 i e2
        · obtain rfl : i = acc.length := by omega
          rw [itm_new]; rfl
  have := key l.length (Nat.le_refl _)
  rwa [List.take_length] at this
theorem moved_par {a : List Item} {k : Nat} {y : Int} (hk : k < a.length) (i : Nat) : (itm (moved a k y) i).par = (itm a i).par ∧ (itm (moved a k y) i).own = (itm a i).own + if i = k then y else 0 := by
  unfold moved
  rw [itm_set _ _ _ _ hk]
  by_cases e : i = k
  · subst e; rw [if_pos rfl, if_pos rfl]; exact ⟨rfl, rfl⟩
  · rw [if_neg e, if_neg e]; exact ⟨rfl, by omega⟩
theorem moved_len (a : List Item) (k : Nat) (y : Int) : (moved a k y).length = a.length := by simp [moved]
theorem voteA_ok {W : List Int} (hW : ∀ x ∈ W, 0 ≤ x ∧ x ≤ 1099511627776) {acc : List Item} (h : SkOk acc) (x : Vote) : SkOk (voteA W acc x) ∧ (voteA W acc x).length = acc.length := by
  unfold voteA
  split
  · rename_i hv
    obtain ⟨h1, h2, h3, h4⟩ := hv
    rcases find_spec acc x.head with ⟨e, _⟩ | ⟨q, hq, e, _⟩
    · exact absurd e h1
    · rw [e] at h4 ⊢
      simp only [Int.toNat_natCast] at h4 ⊢
      have hw : 0 ≤ W[x.frm.toNat]?.getD 0 := by
        rw [List.getElem?_eq_getElem (show x.frm.toNat < W.length by omega)]
        exact (hW _ (List.getElem_mem _)).1
      refine ⟨⟨fun i hi => ?_, fun i hi => ?_⟩, moved_len _ _ _⟩
      · rw [moved_len] at hi; rw [(moved_par hq i).1]; exact h.1 i hi
      · rw [moved_len] at hi
        rw [(moved_par hq i).2]
        have := h.2 i hi
        by_cases e2 : i = q
        · subst e2; rw [if_pos rfl]; omega
        · rw [if_neg e2]; omega
  · exact ⟨h, rfl⟩
theorem blocksOf_sk (l : List Blk) : SkOk (blocksOf l) := ⟨(blocksOf_ok l).2.1, fun i hi => by rw [(blocksOf_ok l).2.2 i hi]; omega⟩
theorem votesOf_ok {W : List Int} (hW : ∀ x ∈ W, 0 ≤ x ∧ x ≤ 1099511627776) (v : List Vote) : ∀ {acc : List Item}, SkOk acc → SkOk (votesOf W v acc) ∧ (votesOf W v acc).length = acc.length := by
  induction v with
  | nil => intro acc h; exact ⟨h, rfl⟩
  | cons x v ih =>
    intro acc h
    obtain ⟨h1, h2⟩ := voteA_ok hW h x
    obtain ⟨h3, h4⟩ := ih h1
    exact ⟨h3, h4.trans h2⟩
/-- What a settled array of such a skeleton weighs. -/
theorem sk_w {r a : List Item} (hl : a.length ≤ 100) (ha : SkOk a) (hs : Settled r) (hk : SameSk r a) : (∀ k, k < r.length → (-1152921504606846976 ≤ (itm r k).w ∧ (itm r k).w ≤ 1152921504606846976)) ∧ ParOk r ∧ ∀ k, k < r.length → 0 ≤ (itm r k).own ∧ (itm r k).own ≤ 1125899906842624 := by
  have hp := hk.par ha.1
  have ho := hk.own ha.2
  refine ⟨fun k hk2 => ?_, hp, ho⟩
  have := w_bound hp (fun i hi => (hs i hi).1) ho hk2
  have := hk.1
  omega
theorem from_step1 {acc r b2 : List Item} {x : Blk} (hk : SameSk r acc) (hj : SameSk b2 (r ++ [newItem (nameOf x) (findI r x.par) r.length])) : SameSk b2 (blkA acc x) := by
  refine hj.trans ?_
  unfold blkA
  rw [findI_sk hk]
  obtain ⟨hl, hs⟩ := hk
  refine ⟨by simp [hl], fun i hi => ?_⟩
  simp at hi
  by_cases e : i < r.length
  · rw [itm_app _ _ _ e, itm_app _ _ _ (by omega)]; exact hs i e
  · obtain rfl : i = r.length := by omega
    rw [itm_new, hl, itm_new]
    exact ⟨rfl, rfl, rfl⟩
theorem voteOk_sk {W : List Int} {acc r : List Item} {x : Vote} (hk : SameSk r acc) : voteOk W r x ↔ voteOk W acc x := by
  unfold voteOk
  rw [findI_sk hk]
  rcases find_spec acc x.head with ⟨e, _⟩ | ⟨q, hq, e, _⟩
  · rw [e]; simp
  · rw [e]
    simp only [Int.toNat_natCast]
    rw [(hk.2 q (by rw [hk.1]; exact hq)).2.2]
theorem moved_sk {r acc : List Item} (hk : SameSk r acc) {q : Nat} (hq : q < r.length) (y : Int) : SameSk (moved r q y) (moved acc q y) := by
  have hl := hk.1
  refine ⟨by rw [moved_len, moved_len]; exact hl, fun i hi => ?_⟩
  rw [moved_len] at hi
  obtain ⟨h1, h2, h3⟩ := hk.2 i hi
  unfold moved
  rw [itm_set _ _ _ _ hq, itm_set _ _ _ _ (by omega)]
  by_cases e : i = q
  · subst e; rw [if_pos rfl, if_pos rfl]; exact ⟨h1, h2, by show (itm r i).own + y = (itm acc i).own + y; rw [h3]⟩
  · rw [if_neg e, if_neg e]; exact ⟨h1, h2, h3⟩
theorem from_yes {W : List Int} {acc r b2 : List Item} {x : Vote} (hk : SameSk r acc) (hv : voteOk W r x) (hj : SameSk b2 (moved r (findI r x.head).toNat (W[x.frm.toNat]?.getD 0))) : SameSk b2 (voteA W acc x) := by
  refine hj.trans ?_
  unfold voteA
  rw [if_pos ((voteOk_sk hk).1 hv), ← findI_sk hk]
  refine moved_sk hk ?_ _
  rcases find_spec r x.head with ⟨e, _⟩ | ⟨q, hq, e, _⟩
  · exact absurd e hv.1
  · rw [e]; simpa using hq
theorem from_no {W : List Int} {acc r : List Item} {x : Vote} (hk : SameSk r acc) (hv : ¬ voteOk W r x) : SameSk r (voteA W acc x) := by
  unfold voteA
  rw [if_neg (fun h => hv ((voteOk_sk hk).2 h))]
  exact hk
end Go.Proofs.Ytibmfpcbjopojaa
