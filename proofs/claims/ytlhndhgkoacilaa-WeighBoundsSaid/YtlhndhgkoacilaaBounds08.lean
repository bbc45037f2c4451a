/- WeighBounds, walked. -/
import Derived.Test.YtlhndhgkoacilaaRead2
import Derived.Test.YtlhndhgkoacilaaTreeMore
import Derived.Test.YtlhndhgkoacilaaAppend
import Derived.Test.YtlhndhgkoacilaaVotes1
namespace Go.Proofs.Ytlhndhgkoacilaa
open Go.RowKit
set_option maxRecDepth 100000 in
set_option maxHeartbeats 400000 in
theorem bounds_any (c : Cfg) (l : List Blk) (vs : List Vote) (x : Vote) (low id : ID) (A A2 A3 : Option Addr) (k k2 k3 : Nat) (w : World) (hr : Rd 1 encI w A c.W) (hr2 : Rd 5 encBlk w A2 l) (hr3 : Rd 4 encVote w A3 vs) (hN : A3 = none → k3 = 0) :
    Calls Try.prog 6 #[cfgv A k c, .slice A2 l.length k2, .slice A3 vs.length k3, votev x, idv low, idv id] w fun e w' => e = .returned (.bool true) ∧ Below w.heap.size w w' := by
  have hm := hr.1
  have hm2 := hr2.1
  have hm3 := hr3.1
  have hunV := Try.underlying27
  have haw := fun V => awake_any V
  have hfew := fun V => few_any c l.length vs.length A A2 A3 k k2 k3 V hm hm2 hm3
  by_cases hsm : c.W.length ≤ 40 ∧ l.length ≤ 30 ∧ vs.length ≤ 30
  · have hd : decide (c.W.length ≤ 40 ∧ l.length ≤ 30 ∧ vs.length ≤ 30) = true := by simpa using hsm
    rw [hd] at hfew
    obtain ⟨hsm1, hsm2, hsm3⟩ := hsm
    clear hd
    have hun := fun V (hV : Below w.heap.size w V) => under_any l low id A2 k2 V (hr2.below hV) (by omega)
    have h1 := fun V (hV : Below w.heap.size w V) => on_any c l vs id A A2 A3 k k2 k3 V (hr.below hV) (hr2.below hV) (hr3.below hV) (by omega) (by omega)
    have h2 := fun V (hV : Below w.heap.size w V) (B : Option Addr) (kb : Nat) (hB : Rd 4 encVote V B (vs ++ [x])) => on_any c l (vs ++ [x]) id A A2 B k k2 kb V (hr.below hV) (hr2.below hV) hB (by omega) (by simp; omega)
    have e2 : (vs ++ [x]).length = vs.length + 1 := by simp
    rw [e2] at h2
    clear e2
    have h3 := fun V (hV : Below w.heap.size w V) => all_any c l vs A A2 A3 k k2 k3 V (hr.below hV) (hr2.below hV) (hr3.below hV) (by omega) (by omega)
    have h4 := fun V (hV : Below w.heap.size w V) => on_any c l vs low A A2 A3 k k2 k3 V (hr.below hV) (hr2.below hV) (hr3.below hV) (by omega) (by omega)
    have h5 := fun V (hV : Below w.heap.size w V) => dtotal_any c A k V (hr.below hV)
    have q0 : 0 ≤ onC c l vs id := (weightC_bd c _).1
    have q1 : onC c l vs id ≤ totalC c := weightC_total c _
    have q2 : onC c l vs id ≤ onC c l (vs ++ [x]) id := onC_more c l vs x id
    have q3 : onC c l vs id ≤ onC c l vs zid := onC_all c l vs id
    have q4 : low ∈ chain l id → onC c l vs id ≤ onC c l vs low := fun h => onC_low c l vs h
    obtain ⟨n, hn⟩ : ∃ n, onC c l vs id = n := ⟨_, rfl⟩
    obtain ⟨m, hm'⟩ : ∃ m, onC c l (vs ++ [x]) id = m := ⟨_, rfl⟩
    obtain ⟨t, ht⟩ : ∃ t, totalC c = t := ⟨_, rfl⟩
    obtain ⟨z, hz⟩ : ∃ z, onC c l vs zid = z := ⟨_, rfl⟩
    obtain ⟨lo, hlo⟩ : ∃ lo, onC c l vs low = lo := ⟨_, rfl⟩
    rw [hn] at h1 q0 q1 q2 q3 q4
    rw [hm'] at h2 q2
    rw [ht] at h5 q1
    rw [hz] at h3 q3
    rw [hlo] at h4 q4
    clear hn hm' ht hz hlo
    have q4' := Lib.hid q4
    clear q4
    unfold cfgv idv votev at *
    have hW : ∃ W, ((((w.alloc (.cells #[.slice A c.W.length k, .int .u64 c.seed, .int .i64 c.epoch, .int .i64 c.num, .int .i64 c.den] 25)).alloc (.cells #[.int .i64 x.frm, .int .i64 x.slot, .int .u64 x.head.hi, .int .u64 x.head.lo] 38)).alloc (.cells #[.int .u64 low.hi, .int .u64 low.lo] 29)).alloc (.cells #[.int .u64 id.hi, .int .u64 id.lo] 29)) = W := ⟨_, rfl⟩
    obtain ⟨W, hW⟩ := hW
    have hB : Below w.heap.size w W := by subst hW; exact ((((Below.refl _ w).alloc (Nat.le_refl _) _).alloc (by simp) _).alloc (by simp <;> omega) _).alloc (by simp <;> omega) _
    have b0 : W.heap[w.heap.size]? = some (.cells #[.slice A c.W.length k, .int .u64 c.seed, .int .i64 c.epoch, .int .i64 c.num, .int .i64 c.den] 25 (0, 0)) := by subst hW; exact ha_lt (ha_lt (ha_lt (ha_at rfl)))
    have b1 : W.heap[w.heap.size + 1]? = some (.cells #[.int .i64 x.frm, .int .i64 x.slot, .int .u64 x.head.hi, .int .u64 x.head.lo] 38 (0, 0)) := by subst hW; exact ha_lt (ha_lt (ha_at (by simp)))
    have b2 : W.heap[w.heap.size + 1 + 1]? = some (.cells #[.int .u64 low.hi, .int .u64 low.lo] 29 (0, 0)) := by subst hW; exact ha_lt (ha_at (by simp))
    have b3 : W.heap[w.heap.size + 1 + 1 + 1]? = some (.cells #[.int .u64 id.hi, .int .u64 id.lo] 29 (0, 0)) := by subst hW; exact ha_at (by simp)
    obtain ⟨c0, c1, c2, c3, c4⟩ := blk5 b0
    go_enter Try.func6, Try.ntmps6
    go_wp2_with (first
      | (go_at_call 9; refine (haw _).mono ?_; clear haw; rintro e w1 ⟨rfl, hb1⟩; have hB1 := below_call hB hB.size hb1; obtain ⟨d0, d1, d2, d3, d4⟩ := blk5 (bl_own hb1 b0))
      | (go_at_call 10; refine (hfew _).mono ?_; clear hfew; rintro e w2 ⟨rfl, hb2⟩; have hB2 := below_call hB1 hB1.size hb2; obtain ⟨e0, e1, e2, e3, e4⟩ := blk5 (bl_own hb2 (bl_own hb1 b0)); obtain ⟨e5, e6, _, _⟩ := blk2 (bl_own hb2 (bl_own hb1 b3)))
      | (go_at_call 11; refine (h1 _ hB2).mono ?_; clear h1; rintro e w3 ⟨rfl, hb3⟩; have hB3 := below_call hB2 hB2.size hb3))
    have a0 := bl_own hb3 (bl_own hb2 (bl_own hb1 b0))
    have a1 := bl_own hb3 (bl_own hb2 (bl_own hb1 b1))
    have a2 := bl_own hb3 (bl_own hb2 (bl_own hb1 b2))
    have a3 := bl_own hb3 (bl_own hb2 (bl_own hb1 b3))
    clear b0 b1 b2 b3 c0 c1 c2 c3 c4 d0 d1 d2 d3 d4 e0 e1 e2 e3 e4 e5 e6 hb1 hb2 hb3 hB1 hB2 hB
    obtain ⟨c0, c1, c2, c3, c4⟩ := blk5 a0
    obtain ⟨c5, c6, c7, c8⟩ := blk4 a1
    obtain ⟨c9, c10, _, _⟩ := blk2 a3
    have hKD : Below w3.heap.size w3 w3.drew := (Below.refl _ w3).drew
    have hszD : w3.drew.heap.size = w3.heap.size := rfl
    obtain ⟨Y, hY⟩ : ∃ Y, w3.drew.alloc (.cells #[.int .i64 x.frm, .int .i64 x.slot, .int .u64 x.head.hi, .int .u64 x.head.lo] 38) = Y := ⟨_, rfl⟩
    have hY2 : (w3.alloc (.cells #[.int .i64 x.frm, .int .i64 x.slot, .int .u64 x.head.hi, .int .u64 x.head.lo] 38)).drew = Y := hY
    have hKY : Below w3.heap.size w3 Y := by subst hY; exact hKD.alloc hKD.size _
    have hxY : Y.heap[w3.heap.size]? = some (.cells #[.int .i64 x.frm, .int .i64 x.slot, .int .u64 x.head.hi, .int .u64 x.head.lo] 38 (0, 0)) := by subst hY; exact ha_at hszD.symm
    have hrD := hr3.below (below_call hB3 hB3.size hKD)
    have hrY := hr3.below (below_call hB3 hB3.size hKY)
    have hnb : ∀ k, (Value.slice none 0 0).ownBlock = some k → w3.heap.size ≤ k := fun k e => by simp [Value.ownBlock] at e
    have hbn : (([] : List Vote).length + vs.length) * 32 ≤ 140737488355328 := by simp; omega
    have hln : ([] : List Vote).length + vs.length ≤ maxLen := by simp [maxLen]; omega
    have hb1 : (([] ++ vs : List Vote).length + 1) * 32 ≤ 140737488355328 := by simp; omega
    have hl1 : ([] ++ vs : List Vote).length + 1 ≤ maxLen := by simp [maxLen]; omega
    go_region_held3 (fun W' => (W'.cell? ⟨w.heap.size, 0, none⟩ = some (.slice A c.W.length k) ∧ W'.cell? ⟨w.heap.size, 1, none⟩ = some (.int .u64 c.seed) ∧ W'.cell? ⟨w.heap.size, 2, none⟩ = some (.int .i64 c.epoch) ∧ W'.cell? ⟨w.heap.size, 3, none⟩ = some (.int .i64 c.num) ∧ W'.cell? ⟨w.heap.size, 4, none⟩ = some (.int .i64 c.den)) ∧
        (W'.cell? ⟨w.heap.size + 1, 0, none⟩ = some (.int .i64 x.frm) ∧ W'.cell? ⟨w.heap.size + 1, 1, none⟩ = some (.int .i64 x.slot) ∧ W'.cell? ⟨w.heap.size + 1, 2, none⟩ = some (.int .u64 x.head.hi) ∧ W'.cell? ⟨w.heap.size + 1, 3, none⟩ = some (.int .u64 x.head.lo)) ∧ W'.cell? ⟨w.heap.size + 1 + 1 + 1, 0, none⟩ = some (.int .u64 id.hi) ∧ W'.cell? ⟨w.heap.size + 1 + 1 + 1, 1, none⟩ = some (.int .u64 id.lo))
      (first | exact ⟨⟨c0, c1, c2, c3, c4⟩, ⟨c5, c6, c7, c8⟩, c9, c10⟩ | exact at_held (bl_own hK7 a0) (bl_own hK7 a1) (bl_own hK7 a3) | exact at_held (bl_own hK6 a0) (bl_own hK6 a1) (bl_own hK6 a3) | exact at_held (bl_own hKZ a0) (bl_own hKZ a1) (bl_own hKZ a3) | exact at_held (bl_own hK4 a0) (bl_own hK4 a1) (bl_own hK4 a3) | exact at_held (bl_own hKY a0) (bl_own hKY a1) (bl_own hKY a3)) ((first
      | (with_reducible refine step_append_all (w := w3.drew) (by with_unfolding_all rfl) (by with_unfolding_all rfl) hunV infoV (by with_unfolding_all rfl) (by decide) encVote_len encVote_one (by with_unfolding_all rfl) (Own.nil _ w3.heap.size _ _ _) (by with_unfolding_all rfl) hN hrD hbn hln hKD.size ?_; intro v4 w4 ho4 hg4 hat4; have hK4 := below_step hKD hKD.size hg4 hnb; have hO4 : ∀ k, v4.ownBlock = some k → w3.heap.size ≤ k := fun k hk => (ho4.base k hk).1; obtain ⟨Z, hZ⟩ : ∃ Z, w4.alloc (.cells #[.int .i64 x.frm, .int .i64 x.slot, .int .u64 x.head.hi, .int .u64 x.head.lo] 38) = Z := ⟨_, rfl⟩; have hKZ : Below w3.heap.size w3 Z := (by subst hZ; exact hK4.alloc hK4.size _); have hoZ : Own Z w3.heap.size 38 4 encVote v4 ([] ++ vs) := (by subst hZ; exact ho4.below ((Below.refl _ w4).alloc (Nat.le_refl _) _)); have hxZ : Z.heap[w4.heap.size]? = some (.cells #[.int .i64 x.frm, .int .i64 x.slot, .int .u64 x.head.hi, .int .u64 x.head.lo] 38 (0, 0)) := (by subst hZ; exact ha_at rfl))
      | (with_reducible refine step_append_all (w := Y) (by with_unfolding_all rfl) (by with_unfolding_all rfl) hunV infoV (by with_unfolding_all rfl) (by decide) encVote_len encVote_one (by with_unfolding_all rfl) (Own.nil _ w3.heap.size _ _ _) (by with_unfolding_all rfl) hN hrY hbn hln hKY.size ?_; intro v4 Z hoZ hgZ hatZ; have hKZ := below_step hKY hKY.size hgZ hnb; have hO4 : ∀ k, v4.ownBlock = some k → w3.heap.size ≤ k := fun k hk => (hoZ.base k hk).1; have hxZ := grown_own hgZ hxY (by simp [Value.ownBlock]))
      | (with_reducible refine step_append1 (w := Z) (by with_unfolding_all rfl) (by with_unfolding_all rfl) hunV infoV (by with_unfolding_all rfl) (by decide) encVote_len encVote_one (by with_unfolding_all rfl) hoZ (c := 1) (by with_unfolding_all rfl) (y := x) hxZ (by with_unfolding_all rfl) hb1 hl1 hKZ.size ?_; intro v6 w6 ho6 hg6 hat6; have hK6 := below_step hKZ hKZ.size hg6 hO4; obtain ⟨A6, k6, hv6, hR6⟩ := ho6.rd encVote_len; simp only [List.nil_append, List.length_append, List.length_singleton] at hv6 hR6; subst hv6)
      | (go_at_call 11; refine (h2 _ (below_call hB3 hB3.size hK6) A6 k6 hR6).mono ?_; clear h2; rintro e w7 ⟨rfl, hb7⟩; have hK7 := below_call hK6 hK6.size hb7)))
    all_goals
      have r0 := bl_own hK7 a0
      have r2 := bl_own hK7 a2
      have r3 := bl_own hK7 a3
      have hR7 := below_call hB3 hB3.size hK7
      obtain ⟨s0, s1, s2, s3, s4⟩ := blk5 r0
      obtain ⟨s5, s6, _, _⟩ := blk2 r2
      obtain ⟨s7, s8, _, _⟩ := blk2 r3
      have g1 : ¬ n < 0 := Int.not_lt.2 q0
      have g2 : ¬ t < n := Int.not_lt.2 q1
      have g3 : ¬ m < n := Int.not_lt.2 q2
      have g4 : ¬ z < n := Int.not_lt.2 q3
      clear c0 c1 c2 c3 c4 c5 c6 c7 c8 c9 c10 a0 a1 a2 a3 hK6 hKZ hO4 hKD hKY hxY hnb hrD hrY hr hr2 hr3
      by_cases hlow : low ∈ chain l id
      · have hd : decide (low ∈ chain l id) = true := by simpa using hlow
        have q5 := q4'.out hlow
        rw [hd] at hun
        clear hd hlow q4'
        go_wp2_with (first
          | (go_at_call 19; refine (h5 _ hR7).mono ?_; clear h5; rintro e w8 ⟨rfl, hb8⟩; have hR8 := below_call hR7 hR7.size hb8; have y0 := bl_own hb8 r0; have y2 := bl_own hb8 r2; have y3 := bl_own hb8 r3; obtain ⟨z0, z1, z2, z3, z4⟩ := blk5 y0)
          | (go_at_call 13; refine (h3 _ hR8).mono ?_; clear h3; rintro e w9 ⟨rfl, hb9⟩; have hR9 := below_call hR8 hR8.size hb9; have x0 := bl_own hb9 y0; obtain ⟨z5, z6, _, _⟩ := blk2 (bl_own hb9 y2); obtain ⟨z7, z8, _, _⟩ := blk2 (bl_own hb9 y3); have x2 := bl_own hb9 y2)
          | (go_at_call 16; refine (hun _ hR9).mono ?_; clear hun; rintro e wa ⟨rfl, hba⟩; have hRa := below_call hR9 hR9.size hba; obtain ⟨v0, v1, v2, v3, v4⟩ := blk5 (bl_own hba x0); obtain ⟨v5, v6, _, _⟩ := blk2 (bl_own hba x2))
          | (go_at_call 11; refine (h4 _ hRa).mono ?_; clear h4; rintro e wb ⟨rfl, hbb⟩; have hRb := below_call hRa hRa.size hbb))
        go_ret
        exact ⟨ret_bool (by simp), hRb⟩
      · have hd : decide (low ∈ chain l id) = false := by simpa using hlow
        rw [hd] at hun
        clear hd hlow q4'
        go_wp2_with (first
          | (go_at_call 19; refine (h5 _ hR7).mono ?_; clear h5; rintro e w8 ⟨rfl, hb8⟩; have hR8 := below_call hR7 hR7.size hb8; have y0 := bl_own hb8 r0; have y2 := bl_own hb8 r2; have y3 := bl_own hb8 r3; obtain ⟨z0, z1, z2, z3, z4⟩ := blk5 y0)
          | (go_at_call 13; refine (h3 _ hR8).mono ?_; clear h3; rintro e w9 ⟨rfl, hb9⟩; have hR9 := below_call hR8 hR8.size hb9; have x0 := bl_own hb9 y0; obtain ⟨z5, z6, _, _⟩ := blk2 (bl_own hb9 y2); obtain ⟨z7, z8, _, _⟩ := blk2 (bl_own hb9 y3); have x2 := bl_own hb9 y2)
          | (go_at_call 16; refine (hun _ hR9).mono ?_; clear hun; rintro e wa ⟨rfl, hba⟩; have hRa := below_call hR9 hR9.size hba; obtain ⟨v0, v1, v2, v3, v4⟩ := blk5 (bl_own hba x0); obtain ⟨v5, v6, _, _⟩ := blk2 (bl_own hba x2))
          | (go_at_call 11; refine (h4 _ hRa).mono ?_; clear h4; rintro e wb ⟨rfl, hbb⟩; have hRb := below_call hRa hRa.size hbb))
        go_ret
        exact ⟨rfl, hRa⟩
  · have hd : decide (c.W.length ≤ 40 ∧ l.length ≤ 30 ∧ vs.length ≤ 30) = false := by simpa using hsm
    rw [hd] at hfew
    clear hsm hd
    unfold cfgv idv votev at *
    have hW : ∃ W, ((((w.alloc (.cells #[.slice A c.W.length k, .int .u64 c.seed, .int .i64 c.epoch, .int .i64 c.num, .int .i64 c.den] 25)).alloc (.cells #[.int .i64 x.frm, .int .i64 x.slot, .int .u64 x.head.hi, .int .u64 x.head.lo] 38)).alloc (.cells #[.int .u64 low.hi, .int .u64 low.lo] 29)).alloc (.cells #[.int .u64 id.hi, .int .u64 id.lo] 29)) = W := ⟨_, rfl⟩
    obtain ⟨W, hW⟩ := hW
    have hB : Below w.heap.size w W := by subst hW; exact ((((Below.refl _ w).alloc (Nat.le_refl _) _).alloc (by simp) _).alloc (by simp <;> omega) _).alloc (by simp <;> omega) _
    have b0 : W.heap[w.heap.size]? = some (.cells #[.slice A c.W.length k, .int .u64 c.seed, .int .i64 c.epoch, .int .i64 c.num, .int .i64 c.den] 25 (0, 0)) := by subst hW; exact ha_lt (ha_lt (ha_lt (ha_at rfl)))
    go_enter Try.func6, Try.ntmps6
    go_wp2_with (first
      | (go_at_call 9; refine (haw _).mono ?_; clear haw; rintro e w1 ⟨rfl, hb1⟩; have hB1 := below_call hB hB.size hb1; obtain ⟨c0, c1, c2, c3, c4⟩ := blk5 (bl_own hb1 b0))
      | (go_at_call 10; refine (hfew _).mono ?_; clear hfew; rintro e w2 ⟨rfl, hb2⟩; have hB2 := below_call hB1 hB1.size hb2))
    go_ret
    exact ⟨rfl, hB2⟩
theorem bounds_walk (A : Option Addr) (c : Cfg) (k : Nat) (A2 : Option Addr) (l : List Blk) (k2 : Nat) (A3 : Option Addr) (vs : List Vote) (k3 : Nat) (x : Vote) (low id : ID) (w : World) (_ : c.W.length ≤ k) (_ : k ≤ maxLen) (hr : Rd 1 encI w A c.W) (_ : c.Ok) (_ : l.length ≤ k2) (_ : k2 ≤ maxLen) (hr2 : Rd 5 encBlk w A2 l) (_ : ∀ b ∈ l, b.Ok) (_ : vs.length ≤ k3) (_ : k3 ≤ maxLen) (hr3 : Rd 4 encVote w A3 vs) (_ : ∀ b ∈ vs, b.Ok) (hN : A3 = none → k3 = 0) (_ : x.Ok) (_ : low.Ok) (_ : id.Ok) :
    Calls Try.prog 6 #[cfgv A k c, .slice A2 l.length k2, .slice A3 vs.length k3, votev x, idv low, idv id] w fun e w' => e = .returned (.bool true) ∧ Below w.heap.size w w' :=
  bounds_any c l vs x low id A A2 A3 k k2 k3 w hr hr2 hr3 hN
end Go.Proofs.Ytlhndhgkoacilaa
