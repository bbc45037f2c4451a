/- ArrayFrom, walked. -/
import Derived.Test.YtibmfpcbjopojaaArrRF
import Derived.Test.YtibmfpcbjopojaaArrX
namespace Go.Proofs.Ytibmfpcbjopojaa
open Go.RowKit
theorem blocksOf_id (l : List Blk) {i : Nat} (hi : i < l.length) : (itm (blocksOf l) i).id = nameOf l[i] := by
  have key : ∀ k, k ≤ l.length → ∀ i (h : i < k) (hl : i < l.length), (itm (blocksOf (l.take k)) i).id = nameOf l[i] := by
    intro k
    induction k with
    | zero => intro _ i h; omega
    | succ k ih =>
      intro hk i h hl
      have e : blocksOf (l.take (k + 1)) = blkA (blocksOf (l.take k)) l[k] := take_foldl blkA [] l (by omega)
      have hlen : (blocksOf (l.take k)).length = k := by rw [(blocksOf_ok _).1]; simp; omega
      rw [e]
      unfold blkA
      by_cases e2 : i < k
      · rw [itm_app _ _ _ (by omega)]
        exact ih (by omega) i e2 hl
      · obtain rfl : i = k := by omega
        have := itm_new (blocksOf (l.take i)) (bareItem (nameOf l[i]) (findI (blocksOf (l.take i)) l[i].par))
        rw [hlen] at this
        rw [this]
        rfl
  have := key l.length (Nat.le_refl _) i hi hi
  rwa [List.take_length] at this
theorem voteA_id (W : List Int) (acc : List Item) (x : Vote) (i : Nat) : (itm (voteA W acc x) i).id = (itm acc i).id := by
  unfold voteA
  split
  · rename_i hv
    rcases find_spec acc x.head with ⟨e, _⟩ | ⟨q, hq, e, _⟩
    · exact absurd e hv.1
    · rw [e]
      simp only [Int.toNat_natCast]
      unfold moved
      rw [itm_set _ _ _ _ hq]
      by_cases e2 : i = q
      · subst e2; rw [if_pos rfl]
      · rw [if_neg e2]
  · rfl
theorem votesOf_id (W : List Int) (v : List Vote) : ∀ (acc : List Item) (i : Nat), (itm (votesOf W v acc) i).id = (itm acc i).id := by
  induction v with
  | nil => intro acc i; rfl
  | cons x v ih =>
    intro acc i
    show (itm (votesOf W v (voteA W acc x)) i).id = _
    rw [ih, voteA_id]
theorem plain_mk {a : List Item} (h1 : ∀ k, k < a.length → (itm a k).id ≠ zid ∧ -1 ≤ (itm a k).par ∧ (itm a k).par < k ∧ 0 ≤ (itm a k).own ∧ (itm a k).own ≤ 1125899906842624) (h2 : ∀ k, k < a.length → ∀ j, j < k → (itm a j).id ≠ (itm a k).id) : Plain a := fun k hk =>
  ⟨(h1 k hk).1, find_hit hk (h2 k hk) rfl, (h1 k hk).2.1, (h1 k hk).2.2.1, (h1 k hk).2.2.2⟩
theorem from_same {c : Cfg} {l : List Blk} {vs : List Vote} {x y : List Item} (h1 : FromP c l vs x) (h2 : FromP c l vs y) : x = y := by
  by_cases hk : FromOk c l
  · exact sk_uniq (votesOf_ok hk.1.1.2.2 vs (blocksOf_sk l)).1.1 (h1.1 hk) (h2.1 hk)
  · rw [h1.2 hk, h2.2 hk]
theorem from_may {c : Cfg} {l : List Blk} {vs : List Vote} {r : List Item} (h : FromP c l vs r) : MayA r ∧ (r.length = l.length ∨ r.length = 0) := by
  by_cases hk : FromOk c l
  · obtain ⟨hM, hT, h60⟩ := hk
    obtain ⟨hs, hsk⟩ := h.1 ⟨hM, hT, h60⟩
    obtain ⟨ho, hl⟩ := votesOf_ok hM.1.2.2 vs (blocksOf_sk l)
    rw [(blocksOf_ok l).1] at hl
    have hrl : r.length = l.length := by rw [hsk.1, hl]
    have hp := hsk.par ho.1
    have hw := hsk.own ho.2
    have hid : ∀ i (hi : i < l.length), (itm r i).id = nameOf l[i] := fun i hi => by rw [(hsk.2 i (by omega)).1, votesOf_id, blocksOf_id l hi]
    refine ⟨⟨by omega, plain_mk (fun k hk => ?_) (fun k hk j hj => ?_), hs⟩, .inl hrl⟩
    · rw [hid k (by omega)]
      exact ⟨(hT k (by omega)).1, (hp k hk).1, (hp k hk).2, hw k hk⟩
    · rw [hid k (by omega), hid j (by omega)]
      intro e
      have := tree_inj hT (by omega) (by omega) e
      omega
  · rw [h.2 hk]
    exact ⟨may_nil, .inr rfl⟩
set_option maxRecDepth 100000 in
set_option maxHeartbeats 1000000 in
theorem few9_any (c : Cfg) (nl nv : Nat) (A A2 A3 : Option Addr) (k k2 k3 : Nat) (w : World) (h1 : c.W.length ≤ 9223372036854775807) (h2 : nl ≤ 9223372036854775807) (h3 : nv ≤ 9223372036854775807) :
    Calls Try.prog 12 #[cfgv A k c, .slice A2 nl k2, .slice A3 nv k3] w fun e w' => e = .returned (.bool (decide (c.W.length ≤ 40 ∧ nl ≤ 20 ∧ nv ≤ 30))) ∧ Below w.heap.size w w' := by
  unfold cfgv
  have hW : ∃ W, w.alloc (.cells #[.slice A c.W.length k, .int .u64 c.seed, .int .i64 c.epoch, .int .i64 c.num, .int .i64 c.den] 25) = W := ⟨_, rfl⟩
  obtain ⟨W, hW⟩ := hW
  have hB : Below w.heap.size w W := by subst hW; exact (Below.refl _ w).alloc (Nat.le_refl _) _
  have hb : W.heap[w.heap.size]? = some (.cells #[.slice A c.W.length k, .int .u64 c.seed, .int .i64 c.epoch, .int .i64 c.num, .int .i64 c.den] 25 (0, 0)) := by subst hW; exact ha_at rfl
  have c0 := blk_cell hb 0
  obtain ⟨n, hn⟩ : ∃ n, c.W.length = n := ⟨_, rfl⟩
  rw [hn] at c0 h1 ⊢
  rw [hn] at hW
  clear hn hb
  go_enter Try.func12, Try.ntmps12
  go_wp2_with fail
  all_goals
    go_ret
    refine ⟨ret_bool ?_, hB⟩
    rw [Bool.eq_iff_iff]
    simp only [Bool.and_eq_true, decide_eq_true_eq, Bool.false_eq_true, false_iff]
    omega
end Go.Proofs.Ytibmfpcbjopojaa
