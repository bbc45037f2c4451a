/- QuickChain, walked. -/
import Derived.Test.YtaohkcdfjjiggaaGreatGJ
import Derived.Test.YtaohkcdfjjiggaaGreatGS
import Derived.Test.YtaohkcdfjjiggaaGreatGQ
namespace Go.Proofs.YtaohkcdfjjiggaaGreat
open Go.RowKit
set_option linter.unusedVariables false
set_option maxRecDepth 100000 in
set_option maxHeartbeats 8000000 in
theorem chain15_any (c : Cfg) (l : List Blk) (vs : List Vote) (s : Int) (x z : ID) (A A2 A3 : Option Addr) (k k2 k3 : Nat) (w : World) (hok : ∀ b ∈ l, b.Ok) (hr : Rd 1 encI w A c.W) (hr2 : Rd 5 encBlk w A2 l) (hr3 : Rd 4 encVote w A3 vs) :
    Calls Tryz.prog 15 #[cfgv A k c, .agg #[.slice A2 l.length k2, .slice A3 vs.length k3], .int .i64 s, idv x, idv z] w fun e w' => e = .returned (.bool true) ∧ Below w.heap.size w w' := by
  have hm := hr.1
  have hm2 := hr2.1
  have hm3 := hr3.1
  have haw := fun V => awake15_any V
  have hfew := fun V => fewN_any c l.length vs.length A A2 A3 k k2 k3 V hm hm2 hm3
  by_cases hsm : c.W.length ≤ 40 ∧ l.length ≤ 20 ∧ vs.length ≤ 30
  · rw [decide_eq_true hsm] at hfew
    obtain ⟨hsm1, hsm2, hsm3⟩ := hsm
    have hmay := fun V (hV : Below w.heap.size w V) => dmay_any c A k V (hr.below hV)
    by_cases hmc : MayC c
    · have hsx := fun V (hV : Below w.heap.size w V) => qsure_any c l vs s x A A2 A3 k k2 k3 V (hr.below hV) (hr2.below hV) (hr3.below hV) (by omega) (by omega) hmc.few
      have hsz := fun V (hV : Below w.heap.size w V) => qsure_any c l vs s z A A2 A3 k k2 k3 V (hr.below hV) (hr2.below hV) (hr3.below hV) (by omega) (by omega) hmc.few
      have hh := fun V (hV : Below w.heap.size w V) => gohead_any c l vs s A A2 A3 k k2 k3 V (hr.below hV) (hr2.below hV) (hr3.below hV) (by omega) (by omega)
      have hun := fun (p q : ID) V (hV : Below w.heap.size w V) => under_any l p q A2 k2 V (hr2.below hV) (by omega)
      have l1 := fun h => sure_head hmc (l := l) (v := vs) (s := s) (y := x) h
      have l2 := fun h h' => sure_low hmc (l := l) (v := vs) (s := s) (a := x) (b := z) h h'
      have l3 := fun h h' => sure_two hmc (l := l) (v := vs) (s := s) (a := x) (b := z) h h'
      rw [decide_eq_true hmc] at hmay
      obtain ⟨sx, hsxe⟩ : ∃ sx, quickSure c l vs s x = sx := ⟨_, rfl⟩
      obtain ⟨sz, hsze⟩ : ∃ sz, quickSure c l vs s z = sz := ⟨_, rfl⟩
      obtain ⟨h, hhe⟩ : ∃ h, goldHead c l vs s = h := ⟨_, rfl⟩
      rw [hhe] at hh l1
      rw [hsxe] at hsx l1 l2 l3
      rw [hsze] at hsz l2 l3
      have u1 := hun z x
      have u2 := hun x h
      have u3 := hun x z
      obtain ⟨bz, hbze⟩ : ∃ bz, decide (z ∈ chain l x) = bz := ⟨_, rfl⟩
      obtain ⟨bh, hbhe⟩ : ∃ bh, decide (x ∈ chain l h) = bh := ⟨_, rfl⟩
      obtain ⟨bx, hbxe⟩ : ∃ bx, decide (x ∈ chain l z) = bx := ⟨_, rfl⟩
      rw [hbze] at u1
      rw [hbhe] at u2
      rw [hbxe] at u3
      have m1 : sx = true → bh = true := fun e => by rw [← hbhe]; exact decide_eq_true (l1 e)
      have m2 : sx = true → bz = true → sz = true := fun e e2 => l2 e (by rw [← hbze] at e2; simpa using e2)
      have m3 : sx = true → sz = true → bx = true ∨ bz = true := fun e e2 => (l3 e e2).elim (fun h => .inl (by rw [← hbxe]; exact decide_eq_true h)) (fun h => .inr (by rw [← hbze]; exact decide_eq_true h))
      clear hhe hsxe hsze hbze hbhe hbxe l1 l2 l3 hun hmc
      unfold cfgv at *
      unfold idv at *
      have hW : ∃ W, (((w.alloc (.cells #[.slice A c.W.length k, .int .u64 c.seed, .int .i64 c.epoch, .int .i64 c.num, .int .i64 c.den] 25)).alloc (.cells #[.slice A2 l.length k2, .slice A3 vs.length k3] 29)).alloc (.cells #[.int .u64 x.hi, .int .u64 x.lo] 35)).alloc (.cells #[.int .u64 z.hi, .int .u64 z.lo] 35) = W := ⟨_, rfl⟩
      obtain ⟨W, hW⟩ := hW
      have hB : Below w.heap.size w W := by subst hW; exact ((((Below.refl _ w).alloc (Nat.le_refl _) _).alloc (by simp <;> omega) _).alloc (by simp <;> omega) _).alloc (by simp <;> omega) _
      have b0 : W.heap[w.heap.size]? = some (.cells #[.slice A c.W.length k, .int .u64 c.seed, .int .i64 c.epoch, .int .i64 c.num, .int .i64 c.den] 25 (0, 0)) := by subst hW; exact ha_lt (ha_lt (ha_lt (ha_at rfl)))
      have b1 : W.heap[w.heap.size + 1]? = some (.cells #[.slice A2 l.length k2, .slice A3 vs.length k3] 29 (0, 0)) := by subst hW; exact ha_lt (ha_lt (ha_at (by simp)))
      have b2 : W.heap[w.heap.size + 1 + 1]? = some (.cells #[.int .u64 x.hi, .int .u64 x.lo] 35 (0, 0)) := by subst hW; exact ha_lt (ha_at (by simp))
      have b3 : W.heap[w.heap.size + 1 + 1 + 1]? = some (.cells #[.int .u64 z.hi, .int .u64 z.lo] 35 (0, 0)) := by subst hW; exact ha_at (by simp)
      cases sx with
      | false =>
        clear m1 m2 m3
        go_enter Tryz.func15, Tryz.ntmps15
        go_wp2_with (first
          | (go_at_call 34; (with_reducible refine (haw _).mono ?_); clear haw; rintro e w1 ⟨rfl, hb1⟩; have hB1 := below_call hB hB.size hb1; have a0 := bl_own hb1 b0; have a1 := bl_own hb1 b1; have a2 := bl_own hb1 b2; have a3 := bl_own hb1 b3; obtain ⟨p0, p1, p2, p3, p4⟩ := blk5 a0; obtain ⟨p5, p6, _, _⟩ := blk2 a1; obtain ⟨p7, p8, _, _⟩ := blk2 a2; obtain ⟨p9, p10, _, _⟩ := blk2 a3)
          | (go_at_call 17; (with_reducible refine (hfew _).mono ?_); clear hfew; rintro e w2 ⟨rfl, hb2⟩; have hB2 := below_call hB1 hB1.size hb2; have d0 := bl_own hb2 a0; have d1 := bl_own hb2 a1; have d2 := bl_own hb2 a2; have d3 := bl_own hb2 a3; obtain ⟨q0, q1, q2, q3, q4⟩ := blk5 d0; obtain ⟨q5, q6, _, _⟩ := blk2 d1; obtain ⟨q7, q8, _, _⟩ := blk2 d2; obtain ⟨q9, q10, _, _⟩ := blk2 d3)
          | (go_at_call 23; (with_reducible refine (hmay _ hB2).mono ?_); clear hmay; rintro e w3 ⟨rfl, hb3⟩; have hB3 := below_call hB2 hB2.size hb3; have f0 := bl_own hb3 d0; have f1 := bl_own hb3 d1; have f2 := bl_own hb3 d2; have f3 := bl_own hb3 d3; obtain ⟨r0, r1, r2, r3, r4⟩ := blk5 f0; obtain ⟨r5, r6, _, _⟩ := blk2 f1; obtain ⟨r7, r8, _, _⟩ := blk2 f2; obtain ⟨r9, r10, _, _⟩ := blk2 f3)
          | (go_at_call 40; (with_reducible refine (hsx _ hB3).mono ?_); clear hsx; rintro e w4 ⟨rfl, hb4⟩; have hB4 := below_call hB3 hB3.size hb4; have g0 := bl_own hb4 f0; have g1 := bl_own hb4 f1; have g2 := bl_own hb4 f2; have g3 := bl_own hb4 f3; obtain ⟨s0, s1, s2, s3, s4⟩ := blk5 g0; obtain ⟨s5, s6, _, _⟩ := blk2 g1; obtain ⟨s7, s8, _, _⟩ := blk2 g2; obtain ⟨s9, s10, _, _⟩ := blk2 g3))
        go_ret
        exact ⟨rfl, hB4⟩
      | true =>
        obtain rfl := m1 rfl
        have m2' := m2 rfl
        have m3' := m3 rfl
        clear m1 m2 m3
        cases bz <;> cases sz <;> cases bx <;> first | (have := m2' rfl; cases this; done) | (rcases m3' rfl with e | e <;> cases e; done) | skip
        all_goals
          clear m2' m3'
          go_enter Tryz.func15, Tryz.ntmps15
          go_wp2_with (first
            | (go_at_call 34; (with_reducible refine (haw _).mono ?_); clear haw; rintro e w1 ⟨rfl, hb1⟩; have hB1 := below_call hB hB.size hb1; have a0 := bl_own hb1 b0; have a1 := bl_own hb1 b1; have a2 := bl_own hb1 b2; have a3 := bl_own hb1 b3; obtain ⟨p0, p1, p2, p3, p4⟩ := blk5 a0; obtain ⟨p5, p6, _, _⟩ := blk2 a1; obtain ⟨p7, p8, _, _⟩ := blk2 a2; obtain ⟨p9, p10, _, _⟩ := blk2 a3)
            | (go_at_call 17; (with_reducible refine (hfew _).mono ?_); clear hfew; rintro e w2 ⟨rfl, hb2⟩; have hB2 := below_call hB1 hB1.size hb2; have d0 := bl_own hb2 a0; have d1 := bl_own hb2 a1; have d2 := bl_own hb2 a2; have d3 := bl_own hb2 a3; obtain ⟨q0, q1, q2, q3, q4⟩ := blk5 d0; obtain ⟨q5, q6, _, _⟩ := blk2 d1; obtain ⟨q7, q8, _, _⟩ := blk2 d2; obtain ⟨q9, q10, _, _⟩ := blk2 d3)
            | (go_at_call 23; (with_reducible refine (hmay _ hB2).mono ?_); clear hmay; rintro e w3 ⟨rfl, hb3⟩; have hB3 := below_call hB2 hB2.size hb3; have f0 := bl_own hb3 d0; have f1 := bl_own hb3 d1; have f2 := bl_own hb3 d2; have f3 := bl_own hb3 d3; obtain ⟨r0, r1, r2, r3, r4⟩ := blk5 f0; obtain ⟨r5, r6, _, _⟩ := blk2 f1; obtain ⟨r7, r8, _, _⟩ := blk2 f2; obtain ⟨r9, r10, _, _⟩ := blk2 f3)
            | (go_at_call 40; (with_reducible refine (hsx _ hB3).mono ?_); clear hsx; rintro e w4 ⟨rfl, hb4⟩; have hB4 := below_call hB3 hB3.size hb4; have g0 := bl_own hb4 f0; have g1 := bl_own hb4 f1; have g2 := bl_own hb4 f2; have g3 := bl_own hb4 f3; obtain ⟨s0, s1, s2, s3, s4⟩ := blk5 g0; obtain ⟨s5, s6, _, _⟩ := blk2 g1; obtain ⟨s7, s8, _, _⟩ := blk2 g2; obtain ⟨s9, s10, _, _⟩ := blk2 g3))
          clear p0 q0 r0 p1 q1 r1 p2 q2 r2 p3 q3 r3 p4 q4 r4 p5 q5 r5 p6 q6 r6 p7 q7 r7 p8 q8 r8 p9 q9 r9 p10 q10 r10 a0 d0 f0 b0 a1 d1 f1 b1 a2 d2 f2 b2 a3 d3 f3 b3 hb1 hb2 hb3 hb4 hB hB1 hB2 hB3 hW
          have ys0 := gr_cell s0
          have ys1 := gr_cell s1
          have ys2 := gr_cell s2
          have ys3 := gr_cell s3
          have ys4 := gr_cell s4
          have ys5 := gr_cell s5
          have ys6 := gr_cell s6
          have ys7 := gr_cell s7
          have ys8 := gr_cell s8
          have ys9 := gr_cell s9
          have ys10 := gr_cell s10
          have hV : ∀ p, Below w.heap.size w (gr w4 p) := fun p => hB4.trans ((gr_below _ _).mono hB4.size)
          refine wp_region_gr (by kernel_rfl) (by kernel_rfl) ?_
          repeat (go_big_quiet_step ((first
            | (go_at_call 29; with_reducible exact Calls.gr_of (u1 _ (hV _)))
            | (go_at_call 29; with_reducible exact Calls.gr_of (u2 _ (hV _)))
            | (go_at_call 40; with_reducible exact Calls.gr_of (hsz _ (hV _)))
            | (go_at_call 21; with_reducible exact Calls.gr_of (hh _ (hV _))))))
          refine wpQuiet_nil ?_
          rintro _ ⟨pq, rfl⟩
          have hB5 := hV pq
          have hb5 := gr_below w4 pq
          generalize gr w4 pq = w5 at hB5 hb5 ⊢
          clear ys0 s0 ys1 s1 ys2 s2 ys3 s3 ys4 s4 ys5 s5 ys6 s6 ys7 s7 ys8 s8 ys9 s9 ys10 s10 hV
          have i0 := bl_own hb5 g0; have i1 := bl_own hb5 g1; have i2 := bl_own hb5 g2; have i3 := bl_own hb5 g3
          obtain ⟨t0, t1, t2, t3, t4⟩ := blk5 i0
          obtain ⟨t5, t6, _, _⟩ := blk2 i1
          obtain ⟨t7, t8, _, _⟩ := blk2 i2
          obtain ⟨t9, t10, _, _⟩ := blk2 i3
          go_wp2_with (first
            | (go_at_call 40; (with_reducible refine (hsz _ hB5).mono ?_); rintro e w6 ⟨rfl, hb6⟩; have hB6 := below_call hB5 hB5.size hb6; have hBf := hB6; have j0 := bl_own hb6 i0; have j1 := bl_own hb6 i1; have j2 := bl_own hb6 i2; have j3 := bl_own hb6 i3; obtain ⟨v0, v1, v2, v3, v4⟩ := blk5 j0; obtain ⟨v5, v6, _, _⟩ := blk2 j1; obtain ⟨v7, v8, _, _⟩ := blk2 j2; obtain ⟨v9, v10, _, _⟩ := blk2 j3)
            | (go_at_call 29; (with_reducible refine (u3 _ hB6).mono ?_); clear u3; rintro e w7 ⟨rfl, hb7⟩; have hB7 := below_call hB6 hB6.size hb7; have hBf := hB7; have k0 := bl_own hb7 j0; have k1 := bl_own hb7 j1; have k2 := bl_own hb7 j2; have k3 := bl_own hb7 j3; obtain ⟨y0, y1, y2, y3, y4⟩ := blk5 k0; obtain ⟨y5, y6, _, _⟩ := blk2 k1; obtain ⟨y7, y8, _, _⟩ := blk2 k2; obtain ⟨y9, y10, _, _⟩ := blk2 k3)
            | (go_at_call 29; (with_reducible refine (u1 _ hB7).mono ?_); rintro e w8 ⟨rfl, hb8⟩; have hBf := below_call hB7 hB7.size hb8))
          go_ret
          exact ⟨rfl, hBf⟩
    · rw [decide_eq_false hmc] at hmay
      clear hmc
      unfold cfgv at *
      unfold idv at *
      have hW : ∃ W, (((w.alloc (.cells #[.slice A c.W.length k, .int .u64 c.seed, .int .i64 c.epoch, .int .i64 c.num, .int .i64 c.den] 25)).alloc (.cells #[.slice A2 l.length k2, .slice A3 vs.length k3] 29)).alloc (.cells #[.int .u64 x.hi, .int .u64 x.lo] 35)).alloc (.cells #[.int .u64 z.hi, .int .u64 z.lo] 35) = W := ⟨_, rfl⟩
      obtain ⟨W, hW⟩ := hW
      have hB : Below w.heap.size w W := by subst hW; exact ((((Below.refl _ w).alloc (Nat.le_refl _) _).alloc (by simp <;> omega) _).alloc (by simp <;> omega) _).alloc (by simp <;> omega) _
      have b0 : W.heap[w.heap.size]? = some (.cells #[.slice A c.W.length k, .int .u64 c.seed, .int .i64 c.epoch, .int .i64 c.num, .int .i64 c.den] 25 (0, 0)) := by subst hW; exact ha_lt (ha_lt (ha_lt (ha_at rfl)))
      have b1 : W.heap[w.heap.size + 1]? = some (.cells #[.slice A2 l.length k2, .slice A3 vs.length k3] 29 (0, 0)) := by subst hW; exact ha_lt (ha_lt (ha_at (by simp)))
      have b2 : W.heap[w.heap.size + 1 + 1]? = some (.cells #[.int .u64 x.hi, .int .u64 x.lo] 35 (0, 0)) := by subst hW; exact ha_lt (ha_at (by simp))
      have b3 : W.heap[w.heap.size + 1 + 1 + 1]? = some (.cells #[.int .u64 z.hi, .int .u64 z.lo] 35 (0, 0)) := by subst hW; exact ha_at (by simp)
      go_enter Tryz.func15, Tryz.ntmps15
      go_wp2_with (first
        | (go_at_call 34; (with_reducible refine (haw _).mono ?_); clear haw; rintro e w1 ⟨rfl, hb1⟩; have hB1 := below_call hB hB.size hb1; have a0 := bl_own hb1 b0; have a1 := bl_own hb1 b1; have a2 := bl_own hb1 b2; have a3 := bl_own hb1 b3; obtain ⟨p0, p1, p2, p3, p4⟩ := blk5 a0; obtain ⟨p5, p6, _, _⟩ := blk2 a1; obtain ⟨p7, p8, _, _⟩ := blk2 a2; obtain ⟨p9, p10, _, _⟩ := blk2 a3)
        | (go_at_call 17; (with_reducible refine (hfew _).mono ?_); clear hfew; rintro e w2 ⟨rfl, hb2⟩; have hB2 := below_call hB1 hB1.size hb2; have d0 := bl_own hb2 a0; have d1 := bl_own hb2 a1; have d2 := bl_own hb2 a2; have d3 := bl_own hb2 a3; obtain ⟨q0, q1, q2, q3, q4⟩ := blk5 d0; obtain ⟨q5, q6, _, _⟩ := blk2 d1; obtain ⟨q7, q8, _, _⟩ := blk2 d2; obtain ⟨q9, q10, _, _⟩ := blk2 d3)
        | (go_at_call 23; (with_reducible refine (hmay _ hB2).mono ?_); clear hmay; rintro e w3 ⟨rfl, hb3⟩; have hB3 := below_call hB2 hB2.size hb3; have f0 := bl_own hb3 d0; have f1 := bl_own hb3 d1; have f2 := bl_own hb3 d2; have f3 := bl_own hb3 d3; obtain ⟨r0, r1, r2, r3, r4⟩ := blk5 f0; obtain ⟨r5, r6, _, _⟩ := blk2 f1; obtain ⟨r7, r8, _, _⟩ := blk2 f2; obtain ⟨r9, r10, _, _⟩ := blk2 f3))
      go_ret
      exact ⟨rfl, hB3⟩
  · rw [decide_eq_false hsm] at hfew
    clear hsm
    unfold cfgv at *
    unfold idv at *
    have hW : ∃ W, (((w.alloc (.cells #[.slice A c.W.length k, .int .u64 c.seed, .int .i64 c.epoch, .int .i64 c.num, .int .i64 c.den] 25)).alloc (.cells #[.slice A2 l.length k2, .slice A3 vs.length k3] 29)).alloc (.cells #[.int .u64 x.hi, .int .u64 x.lo] 35)).alloc (.cells #[.int .u64 z.hi, .int .u64 z.lo] 35) = W := ⟨_, rfl⟩
    obtain ⟨W, hW⟩ := hW
    have hB : Below w.heap.size w W := by subst hW; exact ((((Below.refl _ w).alloc (Nat.le_refl _) _).alloc (by simp <;> omega) _).alloc (by simp <;> omega) _).alloc (by simp <;> omega) _
    have b0 : W.heap[w.heap.size]? = some (.cells #[.slice A c.W.length k, .int .u64 c.seed, .int .i64 c.epoch, .int .i64 c.num, .int .i64 c.den] 25 (0, 0)) := by subst hW; exact ha_lt (ha_lt (ha_lt (ha_at rfl)))
    have b1 : W.heap[w.heap.size + 1]? = some (.cells #[.slice A2 l.length k2, .slice A3 vs.length k3] 29 (0, 0)) := by subst hW; exact ha_lt (ha_lt (ha_at (by simp)))
    have b2 : W.heap[w.heap.size + 1 + 1]? = some (.cells #[.int .u64 x.hi, .int .u64 x.lo] 35 (0, 0)) := by subst hW; exact ha_lt (ha_at (by simp))
    have b3 : W.heap[w.heap.size + 1 + 1 + 1]? = some (.cells #[.int .u64 z.hi, .int .u64 z.lo] 35 (0, 0)) := by subst hW; exact ha_at (by simp)
    go_enter Tryz.func15, Tryz.ntmps15
    go_wp2_with (first
      | (go_at_call 34; (with_reducible refine (haw _).mono ?_); clear haw; rintro e w1 ⟨rfl, hb1⟩; have hB1 := below_call hB hB.size hb1; have a0 := bl_own hb1 b0; have a1 := bl_own hb1 b1; have a2 := bl_own hb1 b2; have a3 := bl_own hb1 b3; obtain ⟨p0, p1, p2, p3, p4⟩ := blk5 a0; obtain ⟨p5, p6, _, _⟩ := blk2 a1; obtain ⟨p7, p8, _, _⟩ := blk2 a2; obtain ⟨p9, p10, _, _⟩ := blk2 a3)
      | (go_at_call 17; (with_reducible refine (hfew _).mono ?_); clear hfew; rintro e w2 ⟨rfl, hb2⟩; have hB2 := below_call hB1 hB1.size hb2; have d0 := bl_own hb2 a0; have d1 := bl_own hb2 a1; have d2 := bl_own hb2 a2; have d3 := bl_own hb2 a3; obtain ⟨q0, q1, q2, q3, q4⟩ := blk5 d0; obtain ⟨q5, q6, _, _⟩ := blk2 d1; obtain ⟨q7, q8, _, _⟩ := blk2 d2; obtain ⟨q9, q10, _, _⟩ := blk2 d3))
    go_ret
    exact ⟨rfl, hB2⟩
theorem chain15_walk (A : Option Addr) (c : Cfg) (k : Nat) (A2 : Option Addr) (l : List Blk) (k2 : Nat) (A3 : Option Addr) (vs : List Vote) (k3 : Nat) (s : Int) (x z : ID) (w : World) (_ : c.W.length ≤ k) (_ : k ≤ maxLen) (hr : Rd 1 encI w A c.W) (_ : c.Ok) (_ : l.length ≤ k2) (_ : k2 ≤ maxLen) (hr2 : Rd 5 encBlk w A2 l) (hok : ∀ b ∈ l, b.Ok) (_ : A2 = none → k2 = 0) (hlk : vs.length ≤ k3) (hkm : k3 ≤ maxLen) (hr3 : Rd 4 encVote w A3 vs) (_ : ∀ b ∈ vs, b.Ok) (hN : A3 = none → k3 = 0) (_ : I64 s) (_ : x.Ok) (_ : z.Ok) :
    Calls Tryz.prog 15 #[cfgv A k c, .agg #[.slice A2 l.length k2, .slice A3 vs.length k3], .int .i64 s, idv x, idv z] w fun e w' => e = .returned (.bool true) ∧ Below w.heap.size w w' :=
  chain15_any c l vs s x z A A2 A3 k k2 k3 w hok hr hr2 hr3
end Go.Proofs.YtaohkcdfjjiggaaGreat
