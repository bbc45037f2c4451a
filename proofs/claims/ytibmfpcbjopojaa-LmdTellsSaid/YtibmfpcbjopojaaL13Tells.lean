/- LmdTells, walked. -/
import Derived.Test.YtibmfpcbjopojaaGJ
import Derived.Test.YtibmfpcbjopojaaGI
namespace Go.Proofs.Ytibmfpcbjopojaa
open Go.RowKit
set_option linter.unusedVariables false
set_option maxRecDepth 100000 in
set_option maxHeartbeats 8000000 in
theorem tells13_any (c : Cfg) (l : List Blk) (vs : List Vote) (u : Int) (bo : ID) (pct : Int) (x : ID) (A A2 A3 : Option Addr) (k k2 k3 : Nat) (w : World) (hok : ∀ b ∈ l, b.Ok) (hr : Rd 1 encI w A c.W) (hr2 : Rd 5 encBlk w A2 l) (hr3 : Rd 4 encVote w A3 vs) :
    Calls Try.prog 3 #[cfgv A k c, .slice A2 l.length k2, .slice A3 vs.length k3, .int .i64 u, idv bo, .int .i64 pct, idv x] w fun e w' => e = .returned (.bool true) ∧ Below w.heap.size w w' := by
  have hm := hr.1
  have hm2 := hr2.1
  have hm3 := hr3.1
  have haw := fun V => awake13_any V
  have hfew := fun V => fewN_any c l.length vs.length A A2 A3 k k2 k3 V hm hm2 hm3
  by_cases hsm : c.W.length ≤ 40 ∧ l.length ≤ 20 ∧ vs.length ≤ 30
  · rw [decide_eq_true hsm] at hfew
    obtain ⟨hsm1, hsm2, hsm3⟩ := hsm
    have hll := lastL_len vs u
    have hbo := fun V (hV : Below w.heap.size w V) => boost_any c pct A k V (hr.below hV)
    have hrbo := fun V (hV : Below w.heap.size w V) => rboost_any c pct A k V (hr.below hV)
    have hon := fun V (hV : Below w.heap.size w V) => lon_any c l vs u bo pct x A A2 A3 k k2 k3 V (hr.below hV) (hr2.below hV) (hr3.below hV) (by omega) (by omega)
    have hron := fun V (hV : Below w.heap.size w V) => rlonv_any c l vs u bo pct x A A2 A3 k k2 k3 V hok (hr.below hV) (hr2.below hV) (hr3.below hV) (by omega) (by omega)
    have hh := fun V (hV : Below w.heap.size w V) => lhead_any c l vs u bo pct A A2 A3 k k2 k3 V (hr.below hV) (hr2.below hV) (hr3.below hV) (by omega) (by omega)
    have hrh := fun V (hV : Below w.heap.size w V) => rlhead_any c l vs u bo pct A A2 A3 k k2 k3 V hok (hr.below hV) (hr2.below hV) (hr3.below hV) (by omega) (by omega)
    obtain ⟨q, hq⟩ : ∃ q, boostC c pct = q := ⟨_, rfl⟩
    obtain ⟨n, hn⟩ : ∃ n, lmdW c l (lastL vs u) bo pct x = n := ⟨_, rfl⟩
    obtain ⟨h, hhe⟩ : ∃ h, lmdHead c l (lastL vs u) bo pct = h := ⟨_, rfl⟩
    rw [hq] at hbo hrbo
    rw [hn] at hon hron
    rw [hhe] at hh hrh
    clear hq hn hhe hll
    have heq := eql_idw h h
    rw [decide_eq_true (rfl : h = h)] at heq
    unfold cfgv idv at *
    have hW : ∃ W, ((w.alloc (.cells #[.slice A c.W.length k, .int .u64 c.seed, .int .i64 c.epoch, .int .i64 c.num, .int .i64 c.den] 25)).alloc (.cells #[.int .u64 bo.hi, .int .u64 bo.lo] 29)).alloc (.cells #[.int .u64 x.hi, .int .u64 x.lo] 29) = W := ⟨_, rfl⟩
    obtain ⟨W, hW⟩ := hW
    have hB : Below w.heap.size w W := by subst hW; exact (((Below.refl _ w).alloc (Nat.le_refl _) _).alloc (by simp <;> omega) _).alloc (by simp <;> omega) _
    have b0 : W.heap[w.heap.size]? = some (.cells #[.slice A c.W.length k, .int .u64 c.seed, .int .i64 c.epoch, .int .i64 c.num, .int .i64 c.den] 25 (0, 0)) := by subst hW; exact ha_lt (ha_lt (ha_at rfl))
    have b1 : W.heap[w.heap.size + 1]? = some (.cells #[.int .u64 bo.hi, .int .u64 bo.lo] 29 (0, 0)) := by subst hW; exact ha_lt (ha_at (by simp))
    have b2 : W.heap[w.heap.size + 1 + 1]? = some (.cells #[.int .u64 x.hi, .int .u64 x.lo] 29 (0, 0)) := by subst hW; exact ha_at (by simp)
    go_enter Try.func3, Try.ntmps3
    go_wp2_with (first
      | (go_at_call 11; (with_reducible refine (haw _).mono ?_); clear haw; rintro e w1 ⟨rfl, hb1⟩; have hB1 := below_call hB hB.size hb1; have a0 := bl_own hb1 b0; have a1 := bl_own hb1 b1; have a2 := bl_own hb1 b2; obtain ⟨p0, p1, p2, p3, p4⟩ := blk5 a0; obtain ⟨p5, p6, _, _⟩ := blk2 a1; obtain ⟨p7, p8, _, _⟩ := blk2 a2)
      | (go_at_call 12; (with_reducible refine (hfew _).mono ?_); clear hfew; rintro e w2 ⟨rfl, hb2⟩; have hB2 := below_call hB1 hB1.size hb2; have d0 := bl_own hb2 a0; have d1 := bl_own hb2 a1; have d2 := bl_own hb2 a2; obtain ⟨q0, q1, q2, q3, q4⟩ := blk5 d0; obtain ⟨q5, q6, _, _⟩ := blk2 d1; obtain ⟨q7, q8, _, _⟩ := blk2 d2)
      | (go_at_call 13; (with_reducible refine (hron _ hB2).mono ?_); clear hron; rintro e w3 ⟨rfl, hb3⟩; have hB3 := below_call hB2 hB2.size hb3; have f0 := bl_own hb3 d0; have f1 := bl_own hb3 d1; have f2 := bl_own hb3 d2; obtain ⟨r0, r1, r2, r3, r4⟩ := blk5 f0; obtain ⟨r5, r6, _, _⟩ := blk2 f1; obtain ⟨r7, r8, _, _⟩ := blk2 f2)
      | (go_at_call 14; (with_reducible refine (hrh _ hB3).mono ?_); clear hrh; rintro e w4 ⟨rfl, hb4⟩; have hB4 := below_call hB3 hB3.size hb4; have hl5 : Below w4.heap.size w4 (w4.alloc (.cells #[.int .u64 h.hi, .int .u64 h.lo] 29)) := (Below.refl _ w4).alloc (Nat.le_refl _) _; have hB5 := below_call hB4 hB4.size hl5; have g0 := bl_own hl5 (bl_own hb4 f0); have g1 := bl_own hl5 (bl_own hb4 f1); have g2 := bl_own hl5 (bl_own hb4 f2); have gh := ha_at (w := w4) (o := .cells #[.int .u64 h.hi, .int .u64 h.lo] 29) (k := w4.heap.size) rfl; obtain ⟨s0, s1, s2, s3, s4⟩ := blk5 g0; obtain ⟨s5, s6, _, _⟩ := blk2 g1; obtain ⟨s7, s8, _, _⟩ := blk2 g2; obtain ⟨s9, s10, _, _⟩ := blk2 gh))
    clear p0 p1 p2 p3 p4 p5 p6 p7 p8 q0 q1 q2 q3 q4 q5 q6 q7 q8 r0 r1 r2 r3 r4 r5 r6 r7 r8 a0 a1 a2 d0 d1 d2 f0 f1 f2 g0 g1 g2 gh b0 b1 b2 hl5
    generalize w4.alloc (.cells #[.int .u64 h.hi, .int .u64 h.lo] 29) = w5 at hB5 s0 s1 s2 s3 s4 s5 s6 s7 s8 s9 s10 ⊢
    have ys0 := gr_cell s0
    have ys1 := gr_cell s1
    have ys2 := gr_cell s2
    have ys3 := gr_cell s3
    have ys4 := gr_cell s4
    have ys5 := gr_cell s5
    have ys6 := gr_cell s6
    have ys7 := gr_cell s7
    have ys8 := gr_cell s8
    have ys9 := gr_cell s9
    have ys10 := gr_cell s10
    have hV : ∀ p, Below w.heap.size w (gr w5 p) := fun p => hB5.trans ((gr_below _ _).mono hB5.size)
    refine wp_region_gr (by kernel_rfl) (by kernel_rfl) ?_
    repeat (go_big_quiet_step ((first
      | (go_at_call 15; with_reducible exact Calls.gr_of (hbo _ (hV _)))
      | (go_at_call 16; with_reducible exact Calls.gr_of (hrbo _ (hV _)))
      | (go_at_call 17; with_reducible exact Calls.gr_of (hon _ (hV _)))
      | (go_at_call 18; with_reducible exact Calls.gr_of (hh _ (hV _))))))
    refine wpQuiet_nil ?_
    rintro _ ⟨pq, rfl⟩
    go_wp2
    go_ret
    exact ⟨rfl, hV _⟩
  · rw [decide_eq_false hsm] at hfew
    clear hsm
    unfold cfgv idv at *
    have hW : ∃ W, ((w.alloc (.cells #[.slice A c.W.length k, .int .u64 c.seed, .int .i64 c.epoch, .int .i64 c.num, .int .i64 c.den] 25)).alloc (.cells #[.int .u64 bo.hi, .int .u64 bo.lo] 29)).alloc (.cells #[.int .u64 x.hi, .int .u64 x.lo] 29) = W := ⟨_, rfl⟩
    obtain ⟨W, hW⟩ := hW
    have hB : Below w.heap.size w W := by subst hW; exact (((Below.refl _ w).alloc (Nat.le_refl _) _).alloc (by simp <;> omega) _).alloc (by simp <;> omega) _
    have b0 : W.heap[w.heap.size]? = some (.cells #[.slice A c.W.length k, .int .u64 c.seed, .int .i64 c.epoch, .int .i64 c.num, .int .i64 c.den] 25 (0, 0)) := by subst hW; exact ha_lt (ha_lt (ha_at rfl))
    have b1 : W.heap[w.heap.size + 1]? = some (.cells #[.int .u64 bo.hi, .int .u64 bo.lo] 29 (0, 0)) := by subst hW; exact ha_lt (ha_at (by simp))
    have b2 : W.heap[w.heap.size + 1 + 1]? = some (.cells #[.int .u64 x.hi, .int .u64 x.lo] 29 (0, 0)) := by subst hW; exact ha_at (by simp)
    go_enter Try.func3, Try.ntmps3
    go_wp2_with (first
      | (go_at_call 11; (with_reducible refine (haw _).mono ?_); clear haw; rintro e w1 ⟨rfl, hb1⟩; have hB1 := below_call hB hB.size hb1; have a0 := bl_own hb1 b0; have a1 := bl_own hb1 b1; have a2 := bl_own hb1 b2; obtain ⟨p0, p1, p2, p3, p4⟩ := blk5 a0; obtain ⟨p5, p6, _, _⟩ := blk2 a1; obtain ⟨p7, p8, _, _⟩ := blk2 a2)
      | (go_at_call 12; (with_reducible refine (hfew _).mono ?_); clear hfew; rintro e w2 ⟨rfl, hb2⟩; have hB2 := below_call hB1 hB1.size hb2; have d0 := bl_own hb2 a0; have d1 := bl_own hb2 a1; have d2 := bl_own hb2 a2; obtain ⟨q0, q1, q2, q3, q4⟩ := blk5 d0; obtain ⟨q5, q6, _, _⟩ := blk2 d1; obtain ⟨q7, q8, _, _⟩ := blk2 d2))
    go_ret
    exact ⟨rfl, hB2⟩
theorem tells13_walk (A : Option Addr) (c : Cfg) (k : Nat) (A2 : Option Addr) (l : List Blk) (k2 : Nat) (A3 : Option Addr) (vs : List Vote) (k3 : Nat) (u : Int) (bo : ID) (pct : Int) (x : ID) (w : World) (_ : c.W.length ≤ k) (_ : k ≤ maxLen) (hr : Rd 1 encI w A c.W) (_ : c.Ok) (_ : l.length ≤ k2) (_ : k2 ≤ maxLen) (hr2 : Rd 5 encBlk w A2 l) (hok : ∀ b ∈ l, b.Ok) (_ : vs.length ≤ k3) (_ : k3 ≤ maxLen) (hr3 : Rd 4 encVote w A3 vs) (_ : ∀ b ∈ vs, b.Ok) (_ : I64 u) (_ : bo.Ok) (_ : I64 pct) (_ : x.Ok) :
    Calls Try.prog 3 #[cfgv A k c, .slice A2 l.length k2, .slice A3 vs.length k3, .int .i64 u, idv bo, .int .i64 pct, idv x] w fun e w' => e = .returned (.bool true) ∧ Below w.heap.size w w' :=
  tells13_any c l vs u bo pct x A A2 A3 k k2 k3 w hok hr hr2 hr3
end Go.Proofs.Ytibmfpcbjopojaa
