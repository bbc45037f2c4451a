/- QuickBeta, walked. -/
import Derived.Test.YtaohkcdfjjiggaaGreatGJ
import Derived.Test.YtaohkcdfjjiggaaGreatGS
import Derived.Test.YtaohkcdfjjiggaaGreatGQ
namespace Go.Proofs.YtaohkcdfjjiggaaGreat
open Go.RowKit
set_option linter.unusedVariables false
set_option maxRecDepth 100000 in
set_option maxHeartbeats 8000000 in
theorem beta15_any (c : Cfg) (l : List Blk) (vs : List Vote) (s : Int) (x : ID) (ls : Int) (A A2 A3 : Option Addr) (k k2 k3 : Nat) (w : World) (hok : ∀ b ∈ l, b.Ok) (hlI : I64 ls) (hr : Rd 1 encI w A c.W) (hr2 : Rd 5 encBlk w A2 l) (hr3 : Rd 4 encVote w A3 vs) :
    Calls Tryz.prog 11 #[cfgv A k c, .agg #[.slice A2 l.length k2, .slice A3 vs.length k3], .int .i64 s, idv x, .int .i64 ls] w fun e w' => e = .returned (.bool true) ∧ Below w.heap.size w w' := by
  have hm := hr.1
  have hm2 := hr2.1
  have hm3 := hr3.1
  have haw := fun V => awake15_any V
  have hfew := fun V => fewN_any c l.length vs.length A A2 A3 k k2 k3 V hm hm2 hm3
  by_cases hsm : c.W.length ≤ 40 ∧ l.length ≤ 20 ∧ vs.length ≤ 30
  · rw [decide_eq_true hsm] at hfew
    obtain ⟨hsm1, hsm2, hsm3⟩ := hsm
    have hmay := fun V (hV : Below w.heap.size w V) => dmay_any c A k V (hr.below hV)
    obtain ⟨hl1, hl2⟩ := hlI
    by_cases hmc : MayC c
    · obtain ⟨-, -, -, n1, n2, n3, n4⟩ := id hmc
      rw [decide_eq_true hmc] at hmay
      have hw2 : wrap64 (2 * c.num) = 2 * c.num := by unfold wrap64; omega
      by_cases h0 : ls < 0
      · clear hmc n1 n2 n3 n4 hw2
        obtain ⟨q, hw⟩ : ∃ q, wrap64 (c.num - ls) = q := ⟨_, rfl⟩
        clear hl1 hl2
        unfold cfgv at *
        unfold idv at *
        have hW : ∃ W, ((w.alloc (.cells #[.slice A c.W.length k, .int .u64 c.seed, .int .i64 c.epoch, .int .i64 c.num, .int .i64 c.den] 25)).alloc (.cells #[.slice A2 l.length k2, .slice A3 vs.length k3] 29)).alloc (.cells #[.int .u64 x.hi, .int .u64 x.lo] 35) = W := ⟨_, rfl⟩
        obtain ⟨W, hW⟩ := hW
        have hB : Below w.heap.size w W := by subst hW; exact (((Below.refl _ w).alloc (Nat.le_refl _) _).alloc (by simp <;> omega) _).alloc (by simp <;> omega) _
        have b0 : W.heap[w.heap.size]? = some (.cells #[.slice A c.W.length k, .int .u64 c.seed, .int .i64 c.epoch, .int .i64 c.num, .int .i64 c.den] 25 (0, 0)) := by subst hW; exact ha_lt (ha_lt (ha_at rfl))
        have b1 : W.heap[w.heap.size + 1]? = some (.cells #[.slice A2 l.length k2, .slice A3 vs.length k3] 29 (0, 0)) := by subst hW; exact ha_lt (ha_at (by simp))
        have b2 : W.heap[w.heap.size + 1 + 1]? = some (.cells #[.int .u64 x.hi, .int .u64 x.lo] 35 (0, 0)) := by subst hW; exact ha_at (by simp)
        go_enter Tryz.func11, Tryz.ntmps11
        go_wp2_with (first
          | (go_at_call 34; (with_reducible refine (haw _).mono ?_); clear haw; rintro e w1 ⟨rfl, hb1⟩; have hB1 := below_call hB hB.size hb1; have a0 := bl_own hb1 b0; have a1 := bl_own hb1 b1; have a2 := bl_own hb1 b2; obtain ⟨p0, p1, p2, p3, p4⟩ := blk5 a0; obtain ⟨p5, p6, _, _⟩ := blk2 a1; obtain ⟨p7, p8, _, _⟩ := blk2 a2)
          | (go_at_call 17; (with_reducible refine (hfew _).mono ?_); clear hfew; rintro e w2 ⟨rfl, hb2⟩; have hB2 := below_call hB1 hB1.size hb2; have d0 := bl_own hb2 a0; have d1 := bl_own hb2 a1; have d2 := bl_own hb2 a2; obtain ⟨q0, q1, q2, q3, q4⟩ := blk5 d0; obtain ⟨q5, q6, _, _⟩ := blk2 d1; obtain ⟨q7, q8, _, _⟩ := blk2 d2; have hl2 : Below w2.heap.size w2 (w2.alloc (.cells #[.slice A c.W.length k, .int .u64 c.seed, .int .i64 c.epoch, .int .i64 q, .int .i64 c.den] 25)) := (Below.refl _ w2).alloc (Nat.le_refl _) _; have fq := ha_at (w := w2) (o := .cells #[.slice A c.W.length k, .int .u64 c.seed, .int .i64 c.epoch, .int .i64 q, .int .i64 c.den] 25) (k := w2.heap.size) rfl; obtain ⟨qq0, qq1, qq2, qq3, qq4⟩ := blk5 (ha_lt (o := .cells #[.slice A c.W.length k, .int .u64 c.seed, .int .i64 c.epoch, .int .i64 c.num, .int .i64 c.den] 25) d0); have fq0 := ha_at (w := w2) (o := .cells #[.slice A c.W.length k, .int .u64 c.seed, .int .i64 c.epoch, .int .i64 c.num, .int .i64 c.den] 25) (k := w2.heap.size) rfl; obtain ⟨qz0, qz1, qz2, qz3, qz4⟩ := blk5 fq0; have qz5 := blk_free fq0 3; have hB2' := below_call hB2 hB2.size hl2; have e0 := bl_own hl2 d0; have e1 := bl_own hl2 d1; have e2 := bl_own hl2 d2; obtain ⟨v0, v1, v2, v3, v4⟩ := blk5 e0; obtain ⟨v5, v6, _, _⟩ := blk2 e1; obtain ⟨v7, v8, _, _⟩ := blk2 e2; obtain ⟨z0, z1, z2, z3, z4⟩ := blk5 fq)
          | (go_at_call 23; (with_reducible refine (hmay _ hB2').mono ?_); clear hmay; rintro e w3 ⟨rfl, hb3⟩; have hB3 := below_call hB2' hB2'.size hb3; have f0 := bl_own hb3 e0; have f1 := bl_own hb3 e1; have f2 := bl_own hb3 e2; obtain ⟨r0, r1, r2, r3, r4⟩ := blk5 f0; obtain ⟨r5, r6, _, _⟩ := blk2 f1; obtain ⟨r7, r8, _, _⟩ := blk2 f2; have fq3 := bl_own hb3 fq; obtain ⟨y0, y1, y2, y3, y4⟩ := blk5 fq3)
          )
        go_ret
        exact ⟨rfl, hB3⟩
      · have hw : wrap64 (c.num - ls) = c.num - ls := by unfold wrap64; omega
        by_cases h1 : c.num - ls < 0
        · clear hmc n1 n2 n3 n4 hw2
          obtain ⟨q, hq⟩ : ∃ q, c.num - ls = q := ⟨_, rfl⟩
          replace hw := hw.trans hq
          rw [hq] at h1
          clear hq hl1 hl2
          unfold cfgv at *
          unfold idv at *
          have hW : ∃ W, ((w.alloc (.cells #[.slice A c.W.length k, .int .u64 c.seed, .int .i64 c.epoch, .int .i64 c.num, .int .i64 c.den] 25)).alloc (.cells #[.slice A2 l.length k2, .slice A3 vs.length k3] 29)).alloc (.cells #[.int .u64 x.hi, .int .u64 x.lo] 35) = W := ⟨_, rfl⟩
          obtain ⟨W, hW⟩ := hW
          have hB : Below w.heap.size w W := by subst hW; exact (((Below.refl _ w).alloc (Nat.le_refl _) _).alloc (by simp <;> omega) _).alloc (by simp <;> omega) _
          have b0 : W.heap[w.heap.size]? = some (.cells #[.slice A c.W.length k, .int .u64 c.seed, .int .i64 c.epoch, .int .i64 c.num, .int .i64 c.den] 25 (0, 0)) := by subst hW; exact ha_lt (ha_lt (ha_at rfl))
          have b1 : W.heap[w.heap.size + 1]? = some (.cells #[.slice A2 l.length k2, .slice A3 vs.length k3] 29 (0, 0)) := by subst hW; exact ha_lt (ha_at (by simp))
          have b2 : W.heap[w.heap.size + 1 + 1]? = some (.cells #[.int .u64 x.hi, .int .u64 x.lo] 35 (0, 0)) := by subst hW; exact ha_at (by simp)
          go_enter Tryz.func11, Tryz.ntmps11
          go_wp2_with (first
            | (go_at_call 34; (with_reducible refine (haw _).mono ?_); clear haw; rintro e w1 ⟨rfl, hb1⟩; have hB1 := below_call hB hB.size hb1; have a0 := bl_own hb1 b0; have a1 := bl_own hb1 b1; have a2 := bl_own hb1 b2; obtain ⟨p0, p1, p2, p3, p4⟩ := blk5 a0; obtain ⟨p5, p6, _, _⟩ := blk2 a1; obtain ⟨p7, p8, _, _⟩ := blk2 a2)
            | (go_at_call 17; (with_reducible refine (hfew _).mono ?_); clear hfew; rintro e w2 ⟨rfl, hb2⟩; have hB2 := below_call hB1 hB1.size hb2; have d0 := bl_own hb2 a0; have d1 := bl_own hb2 a1; have d2 := bl_own hb2 a2; obtain ⟨q0, q1, q2, q3, q4⟩ := blk5 d0; obtain ⟨q5, q6, _, _⟩ := blk2 d1; obtain ⟨q7, q8, _, _⟩ := blk2 d2; have hl2 : Below w2.heap.size w2 (w2.alloc (.cells #[.slice A c.W.length k, .int .u64 c.seed, .int .i64 c.epoch, .int .i64 q, .int .i64 c.den] 25)) := (Below.refl _ w2).alloc (Nat.le_refl _) _; have fq := ha_at (w := w2) (o := .cells #[.slice A c.W.length k, .int .u64 c.seed, .int .i64 c.epoch, .int .i64 q, .int .i64 c.den] 25) (k := w2.heap.size) rfl; obtain ⟨qq0, qq1, qq2, qq3, qq4⟩ := blk5 (ha_lt (o := .cells #[.slice A c.W.length k, .int .u64 c.seed, .int .i64 c.epoch, .int .i64 c.num, .int .i64 c.den] 25) d0); have fq0 := ha_at (w := w2) (o := .cells #[.slice A c.W.length k, .int .u64 c.seed, .int .i64 c.epoch, .int .i64 c.num, .int .i64 c.den] 25) (k := w2.heap.size) rfl; obtain ⟨qz0, qz1, qz2, qz3, qz4⟩ := blk5 fq0; have qz5 := blk_free fq0 3; have hB2' := below_call hB2 hB2.size hl2; have e0 := bl_own hl2 d0; have e1 := bl_own hl2 d1; have e2 := bl_own hl2 d2; obtain ⟨v0, v1, v2, v3, v4⟩ := blk5 e0; obtain ⟨v5, v6, _, _⟩ := blk2 e1; obtain ⟨v7, v8, _, _⟩ := blk2 e2; obtain ⟨z0, z1, z2, z3, z4⟩ := blk5 fq)
            | (go_at_call 23; (with_reducible refine (hmay _ hB2').mono ?_); clear hmay; rintro e w3 ⟨rfl, hb3⟩; have hB3 := below_call hB2' hB2'.size hb3; have f0 := bl_own hb3 e0; have f1 := bl_own hb3 e1; have f2 := bl_own hb3 e2; obtain ⟨r0, r1, r2, r3, r4⟩ := blk5 f0; obtain ⟨r5, r6, _, _⟩ := blk2 f1; obtain ⟨r7, r8, _, _⟩ := blk2 f2; have fq3 := bl_own hb3 fq; obtain ⟨y0, y1, y2, y3, y4⟩ := blk5 fq3)
            )
          go_ret
          exact ⟨rfl, hB3⟩
        · have hsu := fun V (hV : Below w.heap.size w V) => qsure_any c l vs s x A A2 A3 k k2 k3 V (hr.below hV) (hr2.below hV) (hr3.below hV) (by omega) (by omega) hmc.few
          have hsd := fun V (hV : Below w.heap.size w V) => qsure_any (withNum c (c.num - ls)) l vs s x A A2 A3 k k2 k3 V (hr.below hV) (hr2.below hV) (hr3.below hV) (by omega) (by omega) (may_num hmc (n := c.num - ls) (by omega) (by omega)).few
          have l1 := fun h => sure_less hmc (n := c.num - ls) (by omega) (by omega) (l := l) (v := vs) (s := s) (y := x) h
          have l2 := fun h => sure_beta hmc (l := l) (v := vs) (s := s) (y := x) h
          obtain ⟨su, hse⟩ : ∃ su, quickSure c l vs s x = su := ⟨_, rfl⟩
          obtain ⟨sd, hde⟩ : ∃ sd, quickSure (withNum c (c.num - ls)) l vs s x = sd := ⟨_, rfl⟩
          rw [hse] at hsu l1 l2
          rw [hde] at hsd l1
          obtain ⟨q, hq⟩ : ∃ q, c.num - ls = q := ⟨_, rfl⟩
          replace hw := hw.trans hq
          rw [hq] at h1
          simp only [hq] at hsd
          clear hq hl1 hl2 hse hde hmc
          unfold cfgv at *
          unfold idv at *
          dsimp only [withNum] at hsd
          have hW : ∃ W, ((w.alloc (.cells #[.slice A c.W.length k, .int .u64 c.seed, .int .i64 c.epoch, .int .i64 c.num, .int .i64 c.den] 25)).alloc (.cells #[.slice A2 l.length k2, .slice A3 vs.length k3] 29)).alloc (.cells #[.int .u64 x.hi, .int .u64 x.lo] 35) = W := ⟨_, rfl⟩
          obtain ⟨W, hW⟩ := hW
          have hB : Below w.heap.size w W := by subst hW; exact (((Below.refl _ w).alloc (Nat.le_refl _) _).alloc (by simp <;> omega) _).alloc (by simp <;> omega) _
          have b0 : W.heap[w.heap.size]? = some (.cells #[.slice A c.W.length k, .int .u64 c.seed, .int .i64 c.epoch, .int .i64 c.num, .int .i64 c.den] 25 (0, 0)) := by subst hW; exact ha_lt (ha_lt (ha_at rfl))
          have b1 : W.heap[w.heap.size + 1]? = some (.cells #[.slice A2 l.length k2, .slice A3 vs.length k3] 29 (0, 0)) := by subst hW; exact ha_lt (ha_at (by simp))
          have b2 : W.heap[w.heap.size + 1 + 1]? = some (.cells #[.int .u64 x.hi, .int .u64 x.lo] 35 (0, 0)) := by subst hW; exact ha_at (by simp)
          cases su with
          | false =>
            clear l1 l2
            go_enter Tryz.func11, Tryz.ntmps11
            go_wp2_with (first
              | (go_at_call 34; (with_reducible refine (haw _).mono ?_); clear haw; rintro e w1 ⟨rfl, hb1⟩; have hB1 := below_call hB hB.size hb1; have a0 := bl_own hb1 b0; have a1 := bl_own hb1 b1; have a2 := bl_own hb1 b2; obtain ⟨p0, p1, p2, p3, p4⟩ := blk5 a0; obtain ⟨p5, p6, _, _⟩ := blk2 a1; obtain ⟨p7, p8, _, _⟩ := blk2 a2)
              | (go_at_call 17; (with_reducible refine (hfew _).mono ?_); clear hfew; rintro e w2 ⟨rfl, hb2⟩; have hB2 := below_call hB1 hB1.size hb2; have d0 := bl_own hb2 a0; have d1 := bl_own hb2 a1; have d2 := bl_own hb2 a2; obtain ⟨q0, q1, q2, q3, q4⟩ := blk5 d0; obtain ⟨q5, q6, _, _⟩ := blk2 d1; obtain ⟨q7, q8, _, _⟩ := blk2 d2; have hl2 : Below w2.heap.size w2 (w2.alloc (.cells #[.slice A c.W.length k, .int .u64 c.seed, .int .i64 c.epoch, .int .i64 q, .int .i64 c.den] 25)) := (Below.refl _ w2).alloc (Nat.le_refl _) _; have fq := ha_at (w := w2) (o := .cells #[.slice A c.W.length k, .int .u64 c.seed, .int .i64 c.epoch, .int .i64 q, .int .i64 c.den] 25) (k := w2.heap.size) rfl; obtain ⟨qq0, qq1, qq2, qq3, qq4⟩ := blk5 (ha_lt (o := .cells #[.slice A c.W.length k, .int .u64 c.seed, .int .i64 c.epoch, .int .i64 c.num, .int .i64 c.den] 25) d0); have fq0 := ha_at (w := w2) (o := .cells #[.slice A c.W.length k, .int .u64 c.seed, .int .i64 c.epoch, .int .i64 c.num, .int .i64 c.den] 25) (k := w2.heap.size) rfl; obtain ⟨qz0, qz1, qz2, qz3, qz4⟩ := blk5 fq0; have qz5 := blk_free fq0 3; have hB2' := below_call hB2 hB2.size hl2; have e0 := bl_own hl2 d0; have e1 := bl_own hl2 d1; have e2 := bl_own hl2 d2; obtain ⟨v0, v1, v2, v3, v4⟩ := blk5 e0; obtain ⟨v5, v6, _, _⟩ := blk2 e1; obtain ⟨v7, v8, _, _⟩ := blk2 e2; obtain ⟨z0, z1, z2, z3, z4⟩ := blk5 fq)
              | (go_at_call 23; (with_reducible refine (hmay _ hB2').mono ?_); clear hmay; rintro e w3 ⟨rfl, hb3⟩; have hB3 := below_call hB2' hB2'.size hb3; have f0 := bl_own hb3 e0; have f1 := bl_own hb3 e1; have f2 := bl_own hb3 e2; obtain ⟨r0, r1, r2, r3, r4⟩ := blk5 f0; obtain ⟨r5, r6, _, _⟩ := blk2 f1; obtain ⟨r7, r8, _, _⟩ := blk2 f2; have fq3 := bl_own hb3 fq; obtain ⟨y0, y1, y2, y3, y4⟩ := blk5 fq3)
              | (go_at_call 40; (with_reducible refine (hsu _ hB3).mono ?_); clear hsu; rintro e w4 ⟨rfl, hb4⟩; have hB4 := below_call hB3 hB3.size hb4; have g0 := bl_own hb4 f0; have g1 := bl_own hb4 f1; have g2 := bl_own hb4 f2; obtain ⟨s0, s1, s2, s3, s4⟩ := blk5 g0; obtain ⟨s5, s6, _, _⟩ := blk2 g1; obtain ⟨s7, s8, _, _⟩ := blk2 g2; obtain ⟨x0, x1, x2, x3, x4⟩ := blk5 (bl_own hb4 fq3)))
            go_ret
            exact ⟨rfl, hB4⟩
          | true =>
            have l2' := l2 rfl
            obtain rfl := l1 rfl
            clear l1 l2
            go_enter Tryz.func11, Tryz.ntmps11
            go_wp2_with (first
              | (go_at_call 34; (with_reducible refine (haw _).mono ?_); clear haw; rintro e w1 ⟨rfl, hb1⟩; have hB1 := below_call hB hB.size hb1; have a0 := bl_own hb1 b0; have a1 := bl_own hb1 b1; have a2 := bl_own hb1 b2; obtain ⟨p0, p1, p2, p3, p4⟩ := blk5 a0; obtain ⟨p5, p6, _, _⟩ := blk2 a1; obtain ⟨p7, p8, _, _⟩ := blk2 a2)
              | (go_at_call 17; (with_reducible refine (hfew _).mono ?_); clear hfew; rintro e w2 ⟨rfl, hb2⟩; have hB2 := below_call hB1 hB1.size hb2; have d0 := bl_own hb2 a0; have d1 := bl_own hb2 a1; have d2 := bl_own hb2 a2; obtain ⟨q0, q1, q2, q3, q4⟩ := blk5 d0; obtain ⟨q5, q6, _, _⟩ := blk2 d1; obtain ⟨q7, q8, _, _⟩ := blk2 d2; have hl2 : Below w2.heap.size w2 (w2.alloc (.cells #[.slice A c.W.length k, .int .u64 c.seed, .int .i64 c.epoch, .int .i64 q, .int .i64 c.den] 25)) := (Below.refl _ w2).alloc (Nat.le_refl _) _; have fq := ha_at (w := w2) (o := .cells #[.slice A c.W.length k, .int .u64 c.seed, .int .i64 c.epoch, .int .i64 q, .int .i64 c.den] 25) (k := w2.heap.size) rfl; obtain ⟨qq0, qq1, qq2, qq3, qq4⟩ := blk5 (ha_lt (o := .cells #[.slice A c.W.length k, .int .u64 c.seed, .int .i64 c.epoch, .int .i64 c.num, .int .i64 c.den] 25) d0); have fq0 := ha_at (w := w2) (o := .cells #[.slice A c.W.length k, .int .u64 c.seed, .int .i64 c.epoch, .int .i64 c.num, .int .i64 c.den] 25) (k := w2.heap.size) rfl; obtain ⟨qz0, qz1, qz2, qz3, qz4⟩ := blk5 fq0; have qz5 := blk_free fq0 3; have hB2' := below_call hB2 hB2.size hl2; have e0 := bl_own hl2 d0; have e1 := bl_own hl2 d1; have e2 := bl_own hl2 d2; obtain ⟨v0, v1, v2, v3, v4⟩ := blk5 e0; obtain ⟨v5, v6, _, _⟩ := blk2 e1; obtain ⟨v7, v8, _, _⟩ := blk2 e2; obtain ⟨z0, z1, z2, z3, z4⟩ := blk5 fq)
              | (go_at_call 23; (with_reducible refine (hmay _ hB2').mono ?_); clear hmay; rintro e w3 ⟨rfl, hb3⟩; have hB3 := below_call hB2' hB2'.size hb3; have f0 := bl_own hb3 e0; have f1 := bl_own hb3 e1; have f2 := bl_own hb3 e2; obtain ⟨r0, r1, r2, r3, r4⟩ := blk5 f0; obtain ⟨r5, r6, _, _⟩ := blk2 f1; obtain ⟨r7, r8, _, _⟩ := blk2 f2; have fq3 := bl_own hb3 fq; obtain ⟨y0, y1, y2, y3, y4⟩ := blk5 fq3)
              | (go_at_call 40; (with_reducible refine (hsu _ hB3).mono ?_); clear hsu; rintro e w4 ⟨rfl, hb4⟩; have hB4 := below_call hB3 hB3.size hb4; have g0 := bl_own hb4 f0; have g1 := bl_own hb4 f1; have g2 := bl_own hb4 f2; obtain ⟨s0, s1, s2, s3, s4⟩ := blk5 g0; obtain ⟨s5, s6, _, _⟩ := blk2 g1; obtain ⟨s7, s8, _, _⟩ := blk2 g2; obtain ⟨x0, x1, x2, x3, x4⟩ := blk5 (bl_own hb4 fq3))
              | (go_at_call 40; (with_reducible refine (hsd _ hB4).mono ?_); clear hsd; rintro e w5 ⟨rfl, hb5⟩; have hB5 := below_call hB4 hB4.size hb5; have i0 := bl_own hb5 g0; have i1 := bl_own hb5 g1; have i2 := bl_own hb5 g2; obtain ⟨t0, t1, t2, t3, t4⟩ := blk5 i0; obtain ⟨t5, t6, _, _⟩ := blk2 i1; obtain ⟨t7, t8, _, _⟩ := blk2 i2))
            go_ret
            exact ⟨ret_bool (by first | rfl | exact decide_eq_true l2'), hB5⟩
    · rw [decide_eq_false hmc] at hmay
      obtain ⟨q, hw⟩ : ∃ q, wrap64 (c.num - ls) = q := ⟨_, rfl⟩
      clear hmc hl1 hl2
      unfold cfgv at *
      unfold idv at *
      have hW : ∃ W, ((w.alloc (.cells #[.slice A c.W.length k, .int .u64 c.seed, .int .i64 c.epoch, .int .i64 c.num, .int .i64 c.den] 25)).alloc (.cells #[.slice A2 l.length k2, .slice A3 vs.length k3] 29)).alloc (.cells #[.int .u64 x.hi, .int .u64 x.lo] 35) = W := ⟨_, rfl⟩
      obtain ⟨W, hW⟩ := hW
      have hB : Below w.heap.size w W := by subst hW; exact (((Below.refl _ w).alloc (Nat.le_refl _) _).alloc (by simp <;> omega) _).alloc (by simp <;> omega) _
      have b0 : W.heap[w.heap.size]? = some (.cells #[.slice A c.W.length k, .int .u64 c.seed, .int .i64 c.epoch, .int .i64 c.num, .int .i64 c.den] 25 (0, 0)) := by subst hW; exact ha_lt (ha_lt (ha_at rfl))
      have b1 : W.heap[w.heap.size + 1]? = some (.cells #[.slice A2 l.length k2, .slice A3 vs.length k3] 29 (0, 0)) := by subst hW; exact ha_lt (ha_at (by simp))
      have b2 : W.heap[w.heap.size + 1 + 1]? = some (.cells #[.int .u64 x.hi, .int .u64 x.lo] 35 (0, 0)) := by subst hW; exact ha_at (by simp)
      go_enter Tryz.func11, Tryz.ntmps11
      go_wp2_with (first
        | (go_at_call 34; (with_reducible refine (haw _).mono ?_); clear haw; rintro e w1 ⟨rfl, hb1⟩; have hB1 := below_call hB hB.size hb1; have a0 := bl_own hb1 b0; have a1 := bl_own hb1 b1; have a2 := bl_own hb1 b2; obtain ⟨p0, p1, p2, p3, p4⟩ := blk5 a0; obtain ⟨p5, p6, _, _⟩ := blk2 a1; obtain ⟨p7, p8, _, _⟩ := blk2 a2)
        | (go_at_call 17; (with_reducible refine (hfew _).mono ?_); clear hfew; rintro e w2 ⟨rfl, hb2⟩; have hB2 := below_call hB1 hB1.size hb2; have d0 := bl_own hb2 a0; have d1 := bl_own hb2 a1; have d2 := bl_own hb2 a2; obtain ⟨q0, q1, q2, q3, q4⟩ := blk5 d0; obtain ⟨q5, q6, _, _⟩ := blk2 d1; obtain ⟨q7, q8, _, _⟩ := blk2 d2; have hl2 : Below w2.heap.size w2 (w2.alloc (.cells #[.slice A c.W.length k, .int .u64 c.seed, .int .i64 c.epoch, .int .i64 q, .int .i64 c.den] 25)) := (Below.refl _ w2).alloc (Nat.le_refl _) _; have fq := ha_at (w := w2) (o := .cells #[.slice A c.W.length k, .int .u64 c.seed, .int .i64 c.epoch, .int .i64 q, .int .i64 c.den] 25) (k := w2.heap.size) rfl; obtain ⟨qq0, qq1, qq2, qq3, qq4⟩ := blk5 (ha_lt (o := .cells #[.slice A c.W.length k, .int .u64 c.seed, .int .i64 c.epoch, .int .i64 c.num, .int .i64 c.den] 25) d0); have fq0 := ha_at (w := w2) (o := .cells #[.slice A c.W.length k, .int .u64 c.seed, .int .i64 c.epoch, .int .i64 c.num, .int .i64 c.den] 25) (k := w2.heap.size) rfl; obtain ⟨qz0, qz1, qz2, qz3, qz4⟩ := blk5 fq0; have qz5 := blk_free fq0 3; have hB2' := below_call hB2 hB2.size hl2; have e0 := bl_own hl2 d0; have e1 := bl_own hl2 d1; have e2 := bl_own hl2 d2; obtain ⟨v0, v1, v2, v3, v4⟩ := blk5 e0; obtain ⟨v5, v6, _, _⟩ := blk2 e1; obtain ⟨v7, v8, _, _⟩ := blk2 e2; obtain ⟨z0, z1, z2, z3, z4⟩ := blk5 fq)
        | (go_at_call 23; (with_reducible refine (hmay _ hB2').mono ?_); clear hmay; rintro e w3 ⟨rfl, hb3⟩; have hB3 := below_call hB2' hB2'.size hb3; have f0 := bl_own hb3 e0; have f1 := bl_own hb3 e1; have f2 := bl_own hb3 e2; obtain ⟨r0, r1, r2, r3, r4⟩ := blk5 f0; obtain ⟨r5, r6, _, _⟩ := blk2 f1; obtain ⟨r7, r8, _, _⟩ := blk2 f2; have fq3 := bl_own hb3 fq; obtain ⟨y0, y1, y2, y3, y4⟩ := blk5 fq3)
        )
      go_ret
      exact ⟨rfl, hB3⟩
  · rw [decide_eq_false hsm] at hfew
    obtain ⟨q, hw⟩ : ∃ q, wrap64 (c.num - ls) = q := ⟨_, rfl⟩
    clear hsm hlI
    unfold cfgv at *
    unfold idv at *
    have hW : ∃ W, ((w.alloc (.cells #[.slice A c.W.length k, .int .u64 c.seed, .int .i64 c.epoch, .int .i64 c.num, .int .i64 c.den] 25)).alloc (.cells #[.slice A2 l.length k2, .slice A3 vs.length k3] 29)).alloc (.cells #[.int .u64 x.hi, .int .u64 x.lo] 35) = W := ⟨_, rfl⟩
    obtain ⟨W, hW⟩ := hW
    have hB : Below w.heap.size w W := by subst hW; exact (((Below.refl _ w).alloc (Nat.le_refl _) _).alloc (by simp <;> omega) _).alloc (by simp <;> omega) _
    have b0 : W.heap[w.heap.size]? = some (.cells #[.slice A c.W.length k, .int .u64 c.seed, .int .i64 c.epoch, .int .i64 c.num, .int .i64 c.den] 25 (0, 0)) := by subst hW; exact ha_lt (ha_lt (ha_at rfl))
    have b1 : W.heap[w.heap.size + 1]? = some (.cells #[.slice A2 l.length k2, .slice A3 vs.length k3] 29 (0, 0)) := by subst hW; exact ha_lt (ha_at (by simp))
    have b2 : W.heap[w.heap.size + 1 + 1]? = some (.cells #[.int .u64 x.hi, .int .u64 x.lo] 35 (0, 0)) := by subst hW; exact ha_at (by simp)
    go_enter Tryz.func11, Tryz.ntmps11
    go_wp2_with (first
      | (go_at_call 34; (with_reducible refine (haw _).mono ?_); clear haw; rintro e w1 ⟨rfl, hb1⟩; have hB1 := below_call hB hB.size hb1; have a0 := bl_own hb1 b0; have a1 := bl_own hb1 b1; have a2 := bl_own hb1 b2; obtain ⟨p0, p1, p2, p3, p4⟩ := blk5 a0; obtain ⟨p5, p6, _, _⟩ := blk2 a1; obtain ⟨p7, p8, _, _⟩ := blk2 a2)
      | (go_at_call 17; (with_reducible refine (hfew _).mono ?_); clear hfew; rintro e w2 ⟨rfl, hb2⟩; have hB2 := below_call hB1 hB1.size hb2; have d0 := bl_own hb2 a0; have d1 := bl_own hb2 a1; have d2 := bl_own hb2 a2; obtain ⟨q0, q1, q2, q3, q4⟩ := blk5 d0; obtain ⟨q5, q6, _, _⟩ := blk2 d1; obtain ⟨q7, q8, _, _⟩ := blk2 d2; have hl2 : Below w2.heap.size w2 (w2.alloc (.cells #[.slice A c.W.length k, .int .u64 c.seed, .int .i64 c.epoch, .int .i64 q, .int .i64 c.den] 25)) := (Below.refl _ w2).alloc (Nat.le_refl _) _; have fq := ha_at (w := w2) (o := .cells #[.slice A c.W.length k, .int .u64 c.seed, .int .i64 c.epoch, .int .i64 q, .int .i64 c.den] 25) (k := w2.heap.size) rfl; obtain ⟨qq0, qq1, qq2, qq3, qq4⟩ := blk5 (ha_lt (o := .cells #[.slice A c.W.length k, .int .u64 c.seed, .int .i64 c.epoch, .int .i64 c.num, .int .i64 c.den] 25) d0); have fq0 := ha_at (w := w2) (o := .cells #[.slice A c.W.length k, .int .u64 c.seed, .int .i64 c.epoch, .int .i64 c.num, .int .i64 c.den] 25) (k := w2.heap.size) rfl; obtain ⟨qz0, qz1, qz2, qz3, qz4⟩ := blk5 fq0; have qz5 := blk_free fq0 3; have hB2' := below_call hB2 hB2.size hl2; have e0 := bl_own hl2 d0; have e1 := bl_own hl2 d1; have e2 := bl_own hl2 d2; obtain ⟨v0, v1, v2, v3, v4⟩ := blk5 e0; obtain ⟨v5, v6, _, _⟩ := blk2 e1; obtain ⟨v7, v8, _, _⟩ := blk2 e2; obtain ⟨z0, z1, z2, z3, z4⟩ := blk5 fq))
    go_ret
    exact ⟨rfl, hB2'⟩
theorem beta15_walk (A : Option Addr) (c : Cfg) (k : Nat) (A2 : Option Addr) (l : List Blk) (k2 : Nat) (A3 : Option Addr) (vs : List Vote) (k3 : Nat) (s : Int) (x : ID) (ls : Int) (w : World) (_ : c.W.length ≤ k) (_ : k ≤ maxLen) (hr : Rd 1 encI w A c.W) (_ : c.Ok) (_ : l.length ≤ k2) (_ : k2 ≤ maxLen) (hr2 : Rd 5 encBlk w A2 l) (hok : ∀ b ∈ l, b.Ok) (_ : A2 = none → k2 = 0) (hlk : vs.length ≤ k3) (hkm : k3 ≤ maxLen) (hr3 : Rd 4 encVote w A3 vs) (_ : ∀ b ∈ vs, b.Ok) (hN : A3 = none → k3 = 0) (_ : I64 s) (_ : x.Ok) (hlI : I64 ls) :
    Calls Tryz.prog 11 #[cfgv A k c, .agg #[.slice A2 l.length k2, .slice A3 vs.length k3], .int .i64 s, idv x, .int .i64 ls] w fun e w' => e = .returned (.bool true) ∧ Below w.heap.size w w' :=
  beta15_any c l vs s x ls A A2 A3 k k2 k3 w hok hlI hr hr2 hr3
end Go.Proofs.YtaohkcdfjjiggaaGreat
