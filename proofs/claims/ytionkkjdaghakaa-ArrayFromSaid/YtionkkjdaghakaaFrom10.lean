/- ArrayFrom, walked. -/
import Derived.Test.YtionkkjdaghakaaArrRF
import Derived.Test.YtionkkjdaghakaaArrX
namespace Go.Proofs.Ytionkkjdaghakaa
open Go.RowKit
theorem blocksOf_id (l : List Blk) {i : Nat} (hi : i < l.length) : (itm (blocksOf l) i).id = nameOf l[i] := by
  have key : ∀ k, k ≤ l.length → ∀ i (h : i < k) (hl : i < l.length), (itm (blocksOf (l.take k)) i).id = nameOf l[i] := by
    intro k
    induction k with
    | zero => intro _ i h; omega
    | succ k ih =>
      intro hk i h hl
      have e : blocksOf (l.take (k + 1)) = blkA (blocksOf (l.take k)) l[k] := take_foldl blkA [] l (by omega)
      have hlen : (blocksOf (l.take k)).length = k := by rw [(blocksOf_ok _).1]; simp; omega
      rw [e]
      unfold blkA
      by_cases e2 : i < k
      · rw [itm_app _ _ _ (by omega)]
        exact ih (by omega) i e2 hl
      · obtain rfl : i = k := by omega
        have := itm_new (blocksOf (l.take i)) (bareItem (nameOf l[i]) (findI (blocksOf (l.take i)) l[i].par))
        rw [hlen] at this
        rw [this]
        rfl
  have := key l.length (Nat.le_refl _) i hi hi
  rwa [List.take_length] at this
theorem voteA_id (W : List Int) (acc : List Item) (x : Vote) (i : Nat) : (itm (voteA W acc x) i).id = (itm acc i).id := by
  unfold voteA
  split
  · rename_i hv
    rcases find_spec acc x.head with ⟨e, _⟩ | ⟨q, hq, e, _⟩
    · exact absurd e hv.1
    · rw [e]
      simp only [Int.toNat_natCast]
      unfold moved
      rw [itm_set _ _ _ _ hq]
      by_cases e2 : i = q
      · subst e2; rw [if_pos rfl]
      · rw [if_neg e2]
  · rfl
theorem votesOf_id (W : List Int) (v : List Vote) : ∀ (acc : List Item) (i : Nat), (itm (votesOf W v acc) i).id = (itm acc i).id := by
  induction v with
  | nil => intro acc i; rfl
  | cons x v ih =>
    intro acc i
    show (itm (votesOf W v (voteA W acc x)) i).id = _
    rw [ih, voteA_id]
theorem plain_mk {a : List Item} (h1 : ∀ k, k < a.length → (itm a k).id ≠ zid ∧ -1 ≤ (itm a k).par ∧ (itm a k).par < k ∧ 0 ≤ (itm a k).own ∧ (itm a k).own ≤ 1125899906842624) (h2 : ∀ k, k < a.length → ∀ j, j < k → (itm a j).id ≠ (itm a k).id) : Plain a := fun k hk =>
  ⟨(h1 k hk).1, find_hit hk (h2 k hk) rfl, (h1 k hk).2.1, (h1 k hk).2.2.1, (h1 k hk).2.2.2⟩
theorem from_same {c : Cfg} {l : List Blk} {vs : List Vote} {x y : List Item} (h1 : FromP c l vs x) (h2 : FromP c l vs y) : x = y := by
  by_cases hk : FromOk c l
  · exact sk_uniq (votesOf_ok hk.1.1.2.2 vs (blocksOf_sk l)).1.1 (h1.1 hk) (h2.1 hk)
  · rw [h1.2 hk, h2.2 hk]
theorem from_may {c : Cfg} {l : List Blk} {vs : List Vote} {r : List Item} (h : FromP c l vs r) : MayA r ∧ (r.length = l.length ∨ r.length = 0) := by
  by_cases hk : FromOk c l
  · obtain ⟨hM, hT, h60⟩ := hk
    obtain ⟨hs, hsk⟩ := h.1 ⟨hM, hT, h60⟩
    obtain ⟨ho, hl⟩ := votesOf_ok hM.1.2.2 vs (blocksOf_sk l)
    rw [(blocksOf_ok l).1] at hl
    have hrl : r.length = l.length := by rw [hsk.1, hl]
    have hp := hsk.par ho.1
    have hw := hsk.own ho.2
    have hid : ∀ i (hi : i < l.length), (itm r i).id = nameOf l[i] := fun i hi => by rw [(hsk.2 i (by omega)).1, votesOf_id, blocksOf_id l hi]
    refine ⟨⟨by omega, plain_mk (fun k hk => ?_) (fun k hk j hj => ?_), hs⟩, .inl hrl⟩
    · rw [hid k (by omega)]
      exact ⟨(hT k (by omega)).1, (hp k hk).1, (hp k hk).2, hw k hk⟩
    · rw [hid k (by omega), hid j (by omega)]
      intro e
      have := tree_inj hT (by omega) (by omega) e
      omega
  · rw [h.2 hk]
    exact ⟨may_nil, .inr rfl⟩
set_option maxRecDepth 100000 in
set_option maxHeartbeats 1000000 in
theorem few9_any (c : Cfg) (nl nv : Nat) (A A2 A3 : Option Addr) (k k2 k3 : Nat) (w : World) (h1 : c.W.length ≤ 9223372036854775807) (h2 : nl ≤ 9223372036854775807) (h3 : nv ≤ 9223372036854775807) :
    Calls Try.prog 19 #[cfgv A k c, .slice A2 nl k2, .slice A3 nv k3] w fun e w' => e = .returned (.bool (decide (c.W.length ≤ 40 ∧ nl ≤ 20 ∧ nv ≤ 30))) ∧ Below w.heap.size w w' := by
  unfold cfgv
  have hW : ∃ W, w.alloc (.cells #[.slice A c.W.length k, .int .u64 c.seed, .int .i64 c.epoch, .int .i64 c.num, .int .i64 c.den] 37) = W := ⟨_, rfl⟩
  obtain ⟨W, hW⟩ := hW
  have hB : Below w.heap.size w W := by subst hW; exact (Below.refl _ w).alloc (Nat.le_refl _) _
  have hb : W.heap[w.heap.size]? = some (.cells #[.slice A c.W.length k, .int .u64 c.seed, .int .i64 c.epoch, .int .i64 c.num, .int .i64 c.den] 37 (0, 0)) := by subst hW; exact ha_at rfl
  have c0 := blk_cell hb 0
  obtain ⟨n, hn⟩ : ∃ n, c.W.length = n := ⟨_, rfl⟩
  rw [hn] at c0 h1 ⊢
  rw [hn] at hW
  clear hn hb
  go_enter Try.func19, Try.ntmps19
  go_wp2_with fail
  all_goals
    go_ret
    refine ⟨ret_bool ?_, hB⟩
    rw [Bool.eq_iff_iff]
    simp only [Bool.and_eq_true, decide_eq_true_eq, Bool.false_eq_true, false_iff]
    omega
set_option maxRecDepth 100000 in
set_option maxHeartbeats 2000000 in
theorem from10_any (c : Cfg) (l : List Blk) (vs : List Vote) (hok : ∀ b ∈ l, b.Ok) (A A2 A3 : Option Addr) (k k2 k3 : Nat) (w : World) (hr : Rd 1 encI w A c.W) (hr2 : Rd 5 encBlk w A2 l) (hr3 : Rd 4 encVote w A3 vs) :
    Calls Try.prog 4 #[cfgv A k c, .slice A2 l.length k2, .slice A3 vs.length k3] w fun e w' => e = .returned (.bool true) ∧ Below w.heap.size w w' := by
  have hm := hr.1
  have hm2 := hr2.1
  have hm3 := hr3.1
  have haw := fun V => awake10_any V
  have hfew := fun V => few9_any c l.length vs.length A A2 A3 k k2 k3 V hm hm2 hm3
  have hfrom := fun V (hV : Below w.heap.size w V) => from_any c l vs A A2 A3 k k2 k3 V (hr.below hV) (hr2.below hV) (hr3.below hV)
  have hsame := fun (x : List Item) B d (y : List Item) D e V (hx : Rd 7 encItem V B x) (hy : Rd 7 encItem V D y) => same_any x y B D d e V hx hy
  have hmayX := fun (x : List Item) B d V (hR : Rd 7 encItem V B x) => may10_any x B d V hR
  have hfs := fun x y h1 h2 => from_same (c := c) (l := l) (vs := vs) (x := x) (y := y) h1 h2
  have hfm := fun r h => from_may (c := c) (l := l) (vs := vs) (r := r) h
  by_cases hsm : c.W.length ≤ 40 ∧ l.length ≤ 20 ∧ vs.length ≤ 30
  · have hrfrom := fun V (hV : Below w.heap.size w V) => rfrom_any c l vs hok (by omega) A A2 A3 k k2 k3 V (hr.below hV) (hr2.below hV) (hr3.below hV)
    rw [decide_eq_true hsm] at hfew
    clear hsm
    have hfs' := Lib.hid hfs
    have hfm' := Lib.hid hfm
    clear hfs hfm
    generalize FromP c l vs = FP at hfrom hrfrom hfs' hfm'
    unfold cfgv at *
    have hW : ∃ W, w.alloc (.cells #[.slice A c.W.length k, .int .u64 c.seed, .int .i64 c.epoch, .int .i64 c.num, .int .i64 c.den] 37) = W := ⟨_, rfl⟩
    obtain ⟨W, hW⟩ := hW
    have hB : Below w.heap.size w W := by subst hW; exact (Below.refl _ w).alloc (Nat.le_refl _) _
    have b0 : W.heap[w.heap.size]? = some (.cells #[.slice A c.W.length k, .int .u64 c.seed, .int .i64 c.epoch, .int .i64 c.num, .int .i64 c.den] 37 (0, 0)) := by subst hW; exact ha_at rfl
    go_enter Try.func4, Try.ntmps4
    go_wp2_with (first
      | (go_at_call 9; refine (haw _).mono ?_; clear haw; rintro e w1 ⟨rfl, hb1⟩; have hB1 := below_call hB hB.size hb1; have b1 := bl_own hb1 b0; obtain ⟨p0, p1, p2, p3, p4⟩ := blk5 b1)
      | (go_at_call 19; refine (hfew _).mono ?_; clear hfew; rintro e w2 ⟨rfl, hb2⟩; have hB2 := below_call hB1 hB1.size hb2; have b2 := bl_own hb2 b1; obtain ⟨q0, q1, q2, q3, q4⟩ := blk5 b2)
      | (go_at_call 20; refine (hfrom _ hB2).mono ?_; clear hfrom; rintro e w3 ⟨⟨x, v, rfl, ho3, hx⟩, hb3⟩; have hB3 := below_call hB2 hB2.size hb3; have b3 := bl_own hb3 b2; obtain ⟨s0, s1, s2, s3, s4⟩ := blk5 b3; obtain ⟨A4, k4, hv4, hR4⟩ := ho3.rd encItem_len; subst hv4; obtain ⟨hMx, hxl⟩ := hfm'.out x hx)
      | (go_at_call 21; refine (hrfrom _ hB3).mono ?_; clear hrfrom; rintro e w4 ⟨⟨y, v, rfl, ho4, hy⟩, hb4⟩; have hB4 := below_call hB3 hB3.size hb4; obtain rfl := hfs'.out x y hx hy; obtain ⟨A5, k5, hv5, hR5⟩ := ho4.rd encItem_len; subst hv5; have hR4' := hR4.below hb4; have hs1 := hsame x A4 k4 x A5 k5 w4 hR4' hR5; rw [decide_eq_true (rfl : x = x)] at hs1)
      | (go_at_call 15; (with_reducible refine Calls.mono hs1 ?_); clear hs1; rintro e w5 ⟨rfl, hb5⟩; have hB5 := below_call hB4 hB4.size hb5; have hm1 := hmayX x A4 k4 w5 (hR4'.below hb5); rw [decide_eq_true hMx] at hm1)
      | (go_at_call 16; (with_reducible refine Calls.mono hm1 ?_); clear hm1; rintro e w6 ⟨rfl, hb6⟩; have hB6 := below_call hB5 hB5.size hb6))
    all_goals
      go_ret
      refine ⟨ret_bool ?_, hB6⟩
      rcases hxl with h | h <;> simp [h] <;> omega
  · rw [decide_eq_false hsm] at hfew
    clear hsm hfrom
    unfold cfgv at *
    have hW : ∃ W, w.alloc (.cells #[.slice A c.W.length k, .int .u64 c.seed, .int .i64 c.epoch, .int .i64 c.num, .int .i64 c.den] 37) = W := ⟨_, rfl⟩
    obtain ⟨W, hW⟩ := hW
    have hB : Below w.heap.size w W := by subst hW; exact (Below.refl _ w).alloc (Nat.le_refl _) _
    have b0 : W.heap[w.heap.size]? = some (.cells #[.slice A c.W.length k, .int .u64 c.seed, .int .i64 c.epoch, .int .i64 c.num, .int .i64 c.den] 37 (0, 0)) := by subst hW; exact ha_at rfl
    go_enter Try.func4, Try.ntmps4
    go_wp2_with (first
      | (go_at_call 9; refine (haw _).mono ?_; clear haw; rintro e w1 ⟨rfl, hb1⟩; have hB1 := below_call hB hB.size hb1; have b1 := bl_own hb1 b0; obtain ⟨p0, p1, p2, p3, p4⟩ := blk5 b1)
      | (go_at_call 19; refine (hfew _).mono ?_; clear hfew; rintro e w2 ⟨rfl, hb2⟩; have hB2 := below_call hB1 hB1.size hb2))
    go_ret
    exact ⟨rfl, hB2⟩
theorem from10_walk (A : Option Addr) (c : Cfg) (k : Nat) (A2 : Option Addr) (l : List Blk) (k2 : Nat) (A3 : Option Addr) (vs : List Vote) (k3 : Nat) (w : World) (_ : c.W.length ≤ k) (_ : k ≤ maxLen) (hr : Rd 1 encI w A c.W) (_ : c.Ok) (_ : l.length ≤ k2) (_ : k2 ≤ maxLen) (hr2 : Rd 5 encBlk w A2 l) (hok : ∀ b ∈ l, b.Ok) (_ : vs.length ≤ k3) (_ : k3 ≤ maxLen) (hr3 : Rd 4 encVote w A3 vs) (_ : ∀ b ∈ vs, b.Ok) :
    Calls Try.prog 4 #[cfgv A k c, .slice A2 l.length k2, .slice A3 vs.length k3] w fun e w' => e = .returned (.bool true) ∧ Below w.heap.size w w' :=
  from10_any c l vs hok A A2 A3 k k2 k3 w hr hr2 hr3
end Go.Proofs.Ytionkkjdaghakaa
