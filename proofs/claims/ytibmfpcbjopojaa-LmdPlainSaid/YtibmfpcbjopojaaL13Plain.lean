/- LmdPlain, walked. -/
import Derived.Test.YtibmfpcbjopojaaGJ
import Derived.Test.YtibmfpcbjopojaaGI
import Derived.Test.YtibmfpcbjopojaaGF
namespace Go.Proofs.Ytibmfpcbjopojaa
open Go.RowKit
set_option linter.unusedVariables false
set_option maxRecDepth 100000 in
set_option maxHeartbeats 8000000 in
theorem plain13_any (c : Cfg) (l : List Blk) (vs : List Vote) (u : Int) (bo : ID) (pct : Int) (A A2 A3 : Option Addr) (k k2 k3 : Nat) (w : World) (hok : ∀ b ∈ l, b.Ok) (hr : Rd 1 encI w A c.W) (hr2 : Rd 5 encBlk w A2 l) (hr3 : Rd 4 encVote w A3 vs) :
    Calls Try.prog 8 #[cfgv A k c, .slice A2 l.length k2, .slice A3 vs.length k3, .int .i64 u, idv bo, .int .i64 pct] w fun e w' => e = .returned (.bool true) ∧ Below w.heap.size w w' := by
  have hm := hr.1
  have hm2 := hr2.1
  have hm3 := hr3.1
  have haw := fun V => awake13_any V
  have hfew := fun V => fewN_any c l.length vs.length A A2 A3 k k2 k3 V hm hm2 hm3
  by_cases hsm : c.W.length ≤ 40 ∧ l.length ≤ 20 ∧ vs.length ≤ 30
  · rw [decide_eq_true hsm] at hfew
    obtain ⟨hsm1, hsm2, hsm3⟩ := hsm
    have hll := lastL_len vs u
    have hla := fun V (hV : Below w.heap.size w V) => vlast_any vs u A3 k3 V (hr3.below hV) (by omega)
    have hgh := fun A4 k4 V (hV : Below w.heap.size w V) (h4 : Rd 4 encVote V A4 (lastL vs u)) => ghead_any c l (lastL vs u) A A2 A4 k k2 k4 V (hr.below hV) (hr2.below hV) h4 (by omega) (by omega)
    have hh1 := fun V (hV : Below w.heap.size w V) => lhead_any c l vs u zid pct A A2 A3 k k2 k3 V (hr.below hV) (hr2.below hV) (hr3.below hV) (by omega) (by omega)
    have hh2 := fun V (hV : Below w.heap.size w V) => lhead_any c l vs u bo 0 A A2 A3 k k2 k3 V (hr.below hV) (hr2.below hV) (hr3.below hV) (by omega) (by omega)
    rw [show lmdHead c l (lastL vs u) zid pct = headBy l (onC c l (lastL vs u)) by unfold lmdHead; rw [lmdW_plain]] at hh1
    rw [show lmdHead c l (lastL vs u) bo 0 = headBy l (onC c l (lastL vs u)) by unfold lmdHead; rw [lmdW_none c l _ bo (boostC_zero c)]] at hh2
    obtain ⟨h, hhe⟩ : ∃ h, headBy l (onC c l (lastL vs u)) = h := ⟨_, rfl⟩
    rw [hhe] at hgh hh1 hh2
    obtain ⟨m, hme⟩ : ∃ m, lastL vs u = m := ⟨_, rfl⟩
    rw [hme] at hla hgh
    clear hhe hme hll
    have heq := eql_idw h h
    rw [decide_eq_true (rfl : h = h)] at heq
    unfold zid at *
    unfold cfgv idv at *
    have hW : ∃ W, (w.alloc (.cells #[.slice A c.W.length k, .int .u64 c.seed, .int .i64 c.epoch, .int .i64 c.num, .int .i64 c.den] 25)).alloc (.cells #[.int .u64 bo.hi, .int .u64 bo.lo] 29) = W := ⟨_, rfl⟩
    obtain ⟨W, hW⟩ := hW
    have hB : Below w.heap.size w W := by subst hW; exact ((Below.refl _ w).alloc (Nat.le_refl _) _).alloc (by simp <;> omega) _
    have b0 : W.heap[w.heap.size]? = some (.cells #[.slice A c.W.length k, .int .u64 c.seed, .int .i64 c.epoch, .int .i64 c.num, .int .i64 c.den] 25 (0, 0)) := by subst hW; exact ha_lt (ha_at rfl)
    have b1 : W.heap[w.heap.size + 1]? = some (.cells #[.int .u64 bo.hi, .int .u64 bo.lo] 29 (0, 0)) := by subst hW; exact ha_at (by simp)
    go_enter Try.func8, Try.ntmps8
    go_wp2_with (first
      | (go_at_call 11; (with_reducible refine (haw _).mono ?_); clear haw; rintro e w1 ⟨rfl, hb1⟩; have hB1 := below_call hB hB.size hb1; have a0 := bl_own hb1 b0; have a1 := bl_own hb1 b1; obtain ⟨p0, p1, p2, p3, p4⟩ := blk5 a0; obtain ⟨p5, p6, _, _⟩ := blk2 a1)
      | (go_at_call 12; (with_reducible refine (hfew _).mono ?_); clear hfew; rintro e w2 ⟨rfl, hb2⟩; have hB2 := below_call hB1 hB1.size hb2; have d0 := bl_own hb2 a0; have d1 := bl_own hb2 a1; obtain ⟨q0, q1, q2, q3, q4⟩ := blk5 d0; obtain ⟨q5, q6, _, _⟩ := blk2 d1))
    have hlt0 := lt_of_block d0
    have hlt1 := lt_of_block d1
    clear b0 b1 a0 a1 p0 p1 p2 p3 p4 p5 p6 q5 q6 hb1 hb2 hW hB hB1
    go_region_held3 (fun W' => W'.cell? ⟨w.heap.size, 0, none⟩ = some (.slice A c.W.length k) ∧ W'.cell? ⟨w.heap.size, 1, none⟩ = some (.int .u64 c.seed) ∧ W'.cell? ⟨w.heap.size, 2, none⟩ = some (.int .i64 c.epoch) ∧ W'.cell? ⟨w.heap.size, 3, none⟩ = some (.int .i64 c.num) ∧ W'.cell? ⟨w.heap.size, 4, none⟩ = some (.int .i64 c.den))
      (first | exact blk5 d0 | exact blk5 (ha_lt d0) | exact blk5 f0 | exact blk5 (ha_lt f0) | exact blk5 g0 | exact blk5 (ha_lt g0) | exact blk5 k0) ((first
        | (go_at_call 21; refine (hla _ hB2.drew).mono ?_; rintro e w3 ⟨v, rfl, ho, hb3⟩; have hQ3 : Below w2.heap.size w2 w3 := below_call (Below.refl _ w2).drew (Nat.le_refl _) hb3; have hB3 := below_call hB2 hB2.size hQ3; obtain ⟨A4, k4, hv, hR4⟩ := ho.rd encVote_len; subst hv; have f0 := bl_own hQ3 d0)
        | (go_at_call 21; refine (hla _ ((hB2.alloc hB2.size _).drew)).mono ?_; rintro e w3 ⟨v, rfl, ho, hb3⟩; have hQ3 : Below w2.heap.size w2 w3 := below_call (((Below.refl _ w2).alloc (Nat.le_refl _) _).drew) (by simp) hb3; have hB3 := below_call hB2 hB2.size hQ3; obtain ⟨A4, k4, hv, hR4⟩ := ho.rd encVote_len; subst hv; have f0 := bl_own hQ3 d0; have hz3 := bl_own hb3 (ha_at (w := w2) (o := .cells #[.int .u64 0, .int .u64 0] 29) (k := w2.heap.size) rfl))
        | (go_at_call 24; have hz3c := hz3; (with_reducible refine (hgh _ _ w3 hB3 hR4).mono ?_); rintro e w4 ⟨rfl, hb4⟩; have hQ4 := below_call hQ3 hQ3.size hb4; have g0 := bl_own hb4 f0; have hz4 := bl_own hb4 hz3; have hset := set2 hz4 (.int .u64 h.hi) (.int .u64 h.lo); have hlz := lt_of_block hz4; have k0 := grown_own hset.2 g0 (by simp; omega); obtain ⟨i0, i1, j0, j1⟩ := blk2 hz4)
        | (go_at_call 24; (with_reducible refine (hgh _ _ w3 hB3 hR4).mono ?_); rintro e w4 ⟨rfl, hb4⟩; have hQ4 := below_call hQ3 hQ3.size hb4; have g0 := bl_own hb4 f0)
        | (go_at_call 24; (refine (hgh _ _ (w3.alloc (.cells #[.int .u64 0, .int .u64 0] 29)) (hB3.alloc hB3.size _) (hR4.below ((Below.refl _ w3).alloc (Nat.le_refl _) _))).mono ?_); rintro e w4 ⟨rfl, hb4⟩; have hl3 : Below w3.heap.size w3 (w3.alloc (.cells #[.int .u64 0, .int .u64 0] 29)) := (Below.refl _ w3).alloc (Nat.le_refl _) _; have hQ4 := below_call (below_call hQ3 hQ3.size hl3) (Nat.le_trans hQ3.size hl3.size) hb4; have g0 := bl_own hb4 (ha_lt f0); have hz4 := bl_own hb4 (ha_at (w := w3) (o := .cells #[.int .u64 0, .int .u64 0] 29) (k := w3.heap.size) rfl); have hset := set2 hz4 (.int .u64 h.hi) (.int .u64 h.lo); have hlz := lt_of_block hz4; have hlf := lt_of_block f0; have k0 := grown_own hset.2 g0 (by simp; omega); obtain ⟨i0, i1, j0, j1⟩ := blk2 hz4)))
    · have hfin : Below w2.heap.size w2 (w4.alloc (.cells #[.int .u64 h.hi, .int .u64 h.lo] 29)) ∧ (w4.alloc (.cells #[.int .u64 h.hi, .int .u64 h.lo] 29)).heap[w4.heap.size]? = some (.cells #[.int .u64 h.hi, .int .u64 h.lo] 29 (0, 0)) := ⟨below_call hQ4 hQ4.size ((Below.refl _ w4).alloc (Nat.le_refl _) _), ha_at rfl⟩
      generalize w4.alloc (.cells #[.int .u64 h.hi, .int .u64 h.lo] 29) = w9 at hfin ⊢
      generalize w4.heap.size = g at hfin ⊢
      obtain ⟨hQ9, vh⟩ := hfin
      have hB9 := below_call hB2 hB2.size hQ9
      have e0 := bl_own hQ9 d0
      have e1 := bl_own hQ9 d1
      obtain ⟨s0, s1, s2, s3, s4⟩ := blk5 e0
      obtain ⟨s5, s6, _, _⟩ := blk2 e1
      obtain ⟨s7, s8, _, _⟩ := blk2 vh
      have ys7 := gr_cell s7
      have ys8 := gr_cell s8
      go_wp2_with fail
      have ys0 := gr_cell s0
      have ys1 := gr_cell s1
      have ys2 := gr_cell s2
      have ys3 := gr_cell s3
      have ys4 := gr_cell s4
      have ys5 := gr_cell s5
      have ys6 := gr_cell s6
      have hV : ∀ p, Below w.heap.size w (gr w9 p) := fun p => hB9.trans ((gr_below _ _).mono hB9.size)
      refine wp_region_gr (by kernel_rfl) (by kernel_rfl) ?_
      repeat (go_big_quiet_step ((first
        | (go_at_call 18; with_reducible exact Calls.gr_of (hh1 _ (hV _)))
        | (go_at_call 18; with_reducible exact Calls.gr_of (hh2 _ (hV _))))))
      refine wpQuiet_nil ?_
      rintro _ ⟨pq, rfl⟩
      go_wp2
      go_ret
      exact ⟨rfl, hV _⟩
    · have hfin : Below w2.heap.size w2 ((w4.setCell ⟨w3.heap.size, 0, none⟩ (.int .u64 h.hi)).setCell ⟨w3.heap.size, 1, none⟩ (.int .u64 h.lo)) ∧ ((w4.setCell ⟨w3.heap.size, 0, none⟩ (.int .u64 h.hi)).setCell ⟨w3.heap.size, 1, none⟩ (.int .u64 h.lo)).heap[w3.heap.size]? = some (.cells #[.int .u64 h.hi, .int .u64 h.lo] 29 (0, 0)) := ⟨below_step hQ4 hQ4.size hset.2 (fun k e => by cases e; exact hQ3.size), hset.1⟩
      generalize (w4.setCell ⟨w3.heap.size, 0, none⟩ (.int .u64 h.hi)).setCell ⟨w3.heap.size, 1, none⟩ (.int .u64 h.lo) = w9 at hfin ⊢
      generalize w3.heap.size = g at hfin ⊢
      obtain ⟨hQ9, vh⟩ := hfin
      have hB9 := below_call hB2 hB2.size hQ9
      have e0 := bl_own hQ9 d0
      have e1 := bl_own hQ9 d1
      obtain ⟨s0, s1, s2, s3, s4⟩ := blk5 e0
      obtain ⟨s5, s6, _, _⟩ := blk2 e1
      obtain ⟨s7, s8, _, _⟩ := blk2 vh
      have ys7 := gr_cell s7
      have ys8 := gr_cell s8
      go_wp2_with fail
      have ys0 := gr_cell s0
      have ys1 := gr_cell s1
      have ys2 := gr_cell s2
      have ys3 := gr_cell s3
      have ys4 := gr_cell s4
      have ys5 := gr_cell s5
      have ys6 := gr_cell s6
      have hV : ∀ p, Below w.heap.size w (gr w9 p) := fun p => hB9.trans ((gr_below _ _).mono hB9.size)
      refine wp_region_gr (by kernel_rfl) (by kernel_rfl) ?_
      repeat (go_big_quiet_step ((first
        | (go_at_call 18; with_reducible exact Calls.gr_of (hh1 _ (hV _)))
        | (go_at_call 18; with_reducible exact Calls.gr_of (hh2 _ (hV _))))))
      refine wpQuiet_nil ?_
      rintro _ ⟨pq, rfl⟩
      go_wp2
      go_ret
      exact ⟨rfl, hV _⟩
    · have hfin : Below w2.heap.size w2 ((w4.setCell ⟨w2.heap.size, 0, none⟩ (.int .u64 h.hi)).setCell ⟨w2.heap.size, 1, none⟩ (.int .u64 h.lo)) ∧ ((w4.setCell ⟨w2.heap.size, 0, none⟩ (.int .u64 h.hi)).setCell ⟨w2.heap.size, 1, none⟩ (.int .u64 h.lo)).heap[w2.heap.size]? = some (.cells #[.int .u64 h.hi, .int .u64 h.lo] 29 (0, 0)) := ⟨below_step hQ4 hQ4.size hset.2 (fun k e => by cases e; exact Nat.le_refl _), hset.1⟩
      generalize (w4.setCell ⟨w2.heap.size, 0, none⟩ (.int .u64 h.hi)).setCell ⟨w2.heap.size, 1, none⟩ (.int .u64 h.lo) = w9 at hfin ⊢
      obtain ⟨g, hge⟩ : ∃ g, w2.heap.size = g := ⟨_, rfl⟩
      have hfin : Below w2.heap.size w2 w9 ∧ w9.heap[g]? = some (.cells #[.int .u64 h.hi, .int .u64 h.lo] 29 (0, 0)) := by rw [← hge]; exact hfin
      rw [hge]
      obtain ⟨hQ9, vh⟩ := hfin
      have hB9 := below_call hB2 hB2.size hQ9
      have e0 := bl_own hQ9 d0
      have e1 := bl_own hQ9 d1
      obtain ⟨s0, s1, s2, s3, s4⟩ := blk5 e0
      obtain ⟨s5, s6, _, _⟩ := blk2 e1
      obtain ⟨s7, s8, _, _⟩ := blk2 vh
      have ys7 := gr_cell s7
      have ys8 := gr_cell s8
      go_wp2_with fail
      have ys0 := gr_cell s0
      have ys1 := gr_cell s1
      have ys2 := gr_cell s2
      have ys3 := gr_cell s3
      have ys4 := gr_cell s4
      have ys5 := gr_cell s5
      have ys6 := gr_cell s6
      have hV : ∀ p, Below w.heap.size w (gr w9 p) := fun p => hB9.trans ((gr_below _ _).mono hB9.size)
      refine wp_region_gr (by kernel_rfl) (by kernel_rfl) ?_
      repeat (go_big_quiet_step ((first
        | (go_at_call 18; with_reducible exact Calls.gr_of (hh1 _ (hV _)))
        | (go_at_call 18; with_reducible exact Calls.gr_of (hh2 _ (hV _))))))
      refine wpQuiet_nil ?_
      rintro _ ⟨pq, rfl⟩
      go_wp2
      go_ret
      exact ⟨rfl, hV _⟩
  · rw [decide_eq_false hsm] at hfew
    clear hsm
    unfold cfgv idv at *
    have hW : ∃ W, (w.alloc (.cells #[.slice A c.W.length k, .int .u64 c.seed, .int .i64 c.epoch, .int .i64 c.num, .int .i64 c.den] 25)).alloc (.cells #[.int .u64 bo.hi, .int .u64 bo.lo] 29) = W := ⟨_, rfl⟩
    obtain ⟨W, hW⟩ := hW
    have hB : Below w.heap.size w W := by subst hW; exact ((Below.refl _ w).alloc (Nat.le_refl _) _).alloc (by simp <;> omega) _
    have b0 : W.heap[w.heap.size]? = some (.cells #[.slice A c.W.length k, .int .u64 c.seed, .int .i64 c.epoch, .int .i64 c.num, .int .i64 c.den] 25 (0, 0)) := by subst hW; exact ha_lt (ha_at rfl)
    have b1 : W.heap[w.heap.size + 1]? = some (.cells #[.int .u64 bo.hi, .int .u64 bo.lo] 29 (0, 0)) := by subst hW; exact ha_at (by simp)
    go_enter Try.func8, Try.ntmps8
    go_wp2_with (first
      | (go_at_call 11; (with_reducible refine (haw _).mono ?_); clear haw; rintro e w1 ⟨rfl, hb1⟩; have hB1 := below_call hB hB.size hb1; have a0 := bl_own hb1 b0; have a1 := bl_own hb1 b1; obtain ⟨p0, p1, p2, p3, p4⟩ := blk5 a0; obtain ⟨p5, p6, _, _⟩ := blk2 a1)
      | (go_at_call 12; (with_reducible refine (hfew _).mono ?_); clear hfew; rintro e w2 ⟨rfl, hb2⟩; have hB2 := below_call hB1 hB1.size hb2; have d0 := bl_own hb2 a0; have d1 := bl_own hb2 a1; obtain ⟨q0, q1, q2, q3, q4⟩ := blk5 d0; obtain ⟨q5, q6, _, _⟩ := blk2 d1))
    go_ret
    exact ⟨rfl, hB2⟩
theorem plain13_walk (A : Option Addr) (c : Cfg) (k : Nat) (A2 : Option Addr) (l : List Blk) (k2 : Nat) (A3 : Option Addr) (vs : List Vote) (k3 : Nat) (u : Int) (bo : ID) (pct : Int) (w : World) (_ : c.W.length ≤ k) (_ : k ≤ maxLen) (hr : Rd 1 encI w A c.W) (_ : c.Ok) (_ : l.length ≤ k2) (_ : k2 ≤ maxLen) (hr2 : Rd 5 encBlk w A2 l) (hok : ∀ b ∈ l, b.Ok) (_ : vs.length ≤ k3) (_ : k3 ≤ maxLen) (hr3 : Rd 4 encVote w A3 vs) (_ : ∀ b ∈ vs, b.Ok) (_ : I64 u) (_ : bo.Ok) (_ : I64 pct) :
    Calls Try.prog 8 #[cfgv A k c, .slice A2 l.length k2, .slice A3 vs.length k3, .int .i64 u, idv bo, .int .i64 pct] w fun e w' => e = .returned (.bool true) ∧ Below w.heap.size w w' :=
  plain13_any c l vs u bo pct A A2 A3 k k2 k3 w hok hr hr2 hr3
end Go.Proofs.Ytibmfpcbjopojaa
