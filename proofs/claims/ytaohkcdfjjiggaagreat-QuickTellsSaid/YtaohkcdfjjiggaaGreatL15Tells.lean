/- QuickTells, walked. -/
import Derived.Test.YtaohkcdfjjiggaaGreatGJ
import Derived.Test.YtaohkcdfjjiggaaGreatGS
namespace Go.Proofs.YtaohkcdfjjiggaaGreat
open Go.RowKit
set_option linter.unusedVariables false
set_option maxRecDepth 100000 in
set_option maxHeartbeats 8000000 in
theorem tells15_any (c : Cfg) (l : List Blk) (vs : List Vote) (s : Int) (x : ID) (A A2 A3 : Option Addr) (k k2 k3 : Nat) (w : World) (hok : ∀ b ∈ l, b.Ok) (hr : Rd 1 encI w A c.W) (hr2 : Rd 5 encBlk w A2 l) (hr3 : Rd 4 encVote w A3 vs) :
    Calls Tryz.prog 9 #[cfgv A k c, .agg #[.slice A2 l.length k2, .slice A3 vs.length k3], .int .i64 s, idv x] w fun e w' => e = .returned (.bool true) ∧ Below w.heap.size w w' := by
  have hm := hr.1
  have hm2 := hr2.1
  have hm3 := hr3.1
  have haw := fun V => awake15_any V
  have hfew := fun V => fewN_any c l.length vs.length A A2 A3 k k2 k3 V hm hm2 hm3
  by_cases hsm : c.W.length ≤ 40 ∧ l.length ≤ 20 ∧ vs.length ≤ 30
  · rw [decide_eq_true hsm] at hfew
    obtain ⟨hsm1, hsm2, hsm3⟩ := hsm
    by_cases hnf : NumFew c
    · have hsu := fun V (hV : Below w.heap.size w V) => qsure_any c l vs s x A A2 A3 k k2 k3 V (hr.below hV) (hr2.below hV) (hr3.below hV) (by omega) (by omega) hnf
      have hrsu := fun V (hV : Below w.heap.size w V) => rqsure_any c l vs s x A A2 A3 k k2 k3 V hok (hr.below hV) (hr2.below hV) (hr3.below hV) (by omega) (by omega) hnf
      have hto := fun V (hV : Below w.heap.size w V) => qtop_any c l vs s x A A2 A3 k k2 k3 V (hr.below hV) (hr2.below hV) (hr3.below hV) (by omega) (by omega) hnf
      have hrto := fun V (hV : Below w.heap.size w V) => rqtop_any c l vs s x A A2 A3 k k2 k3 V hok (hr.below hV) (hr2.below hV) (hr3.below hV) (by omega) (by omega) hnf
      have hfo := fun V (hV : Below w.heap.size w V) => qfor_any c l vs s x A A2 A3 k k2 k3 V (hr.below hV) (hr2.below hV) (hr3.below hV) (by omega) (by omega)
      have hrfo := fun V (hV : Below w.heap.size w V) => rqfor_any c l vs s x A A2 A3 k k2 k3 V hok (hr.below hV) (hr2.below hV) (hr3.below hV) (by omega) (by omega)
      obtain ⟨su, hse⟩ : ∃ su, quickSure c l vs s x = su := ⟨_, rfl⟩
      obtain ⟨tp, htp⟩ : ∃ tp, quickTop c l vs s x = tp := ⟨_, rfl⟩
      obtain ⟨nn, hnn⟩ : ∃ nn, quickFor c l vs s x = nn := ⟨_, rfl⟩
      rw [hse] at hsu hrsu
      rw [htp] at hto hrto
      rw [hnn] at hfo hrfo
      clear hse htp hnn
      obtain ⟨tb, ty⟩ := tp
      have heq := eql_idw ty ty
      rw [decide_eq_true (rfl : ty = ty)] at heq
      have hne : (nn == nn) = true := by simp
      obtain ⟨⟨f1, f2⟩, f3, f4⟩ := hnf
      have g1 : ¬ (1099511627776 < c.num) := by omega
      have g2 : ¬ (c.num < -1099511627776) := by omega
      have g3 : ¬ (1099511627776 < c.den) := by omega
      have g4 : ¬ (c.den < -1099511627776) := by omega
      clear f1 f2 f3 f4
      dsimp only at hto hrto
      unfold cfgv at *
      unfold idv at *
      have hW : ∃ W, ((w.alloc (.cells #[.slice A c.W.length k, .int .u64 c.seed, .int .i64 c.epoch, .int .i64 c.num, .int .i64 c.den] 25)).alloc (.cells #[.slice A2 l.length k2, .slice A3 vs.length k3] 29)).alloc (.cells #[.int .u64 x.hi, .int .u64 x.lo] 35) = W := ⟨_, rfl⟩
      obtain ⟨W, hW⟩ := hW
      have hB : Below w.heap.size w W := by subst hW; exact (((Below.refl _ w).alloc (Nat.le_refl _) _).alloc (by simp <;> omega) _).alloc (by simp <;> omega) _
      have b0 : W.heap[w.heap.size]? = some (.cells #[.slice A c.W.length k, .int .u64 c.seed, .int .i64 c.epoch, .int .i64 c.num, .int .i64 c.den] 25 (0, 0)) := by subst hW; exact ha_lt (ha_lt (ha_at rfl))
      have b1 : W.heap[w.heap.size + 1]? = some (.cells #[.slice A2 l.length k2, .slice A3 vs.length k3] 29 (0, 0)) := by subst hW; exact ha_lt (ha_at (by simp))
      have b2 : W.heap[w.heap.size + 1 + 1]? = some (.cells #[.int .u64 x.hi, .int .u64 x.lo] 35 (0, 0)) := by subst hW; exact ha_at (by simp)
      cases su <;> cases tb
      all_goals
        go_enter Tryz.func9, Tryz.ntmps9
        go_wp2_with (first
          | (go_at_call 34; (with_reducible refine (haw _).mono ?_); clear haw; rintro e w1 ⟨rfl, hb1⟩; have hB1 := below_call hB hB.size hb1; have a0 := bl_own hb1 b0; have a1 := bl_own hb1 b1; have a2 := bl_own hb1 b2; obtain ⟨p0, p1, p2, p3, p4⟩ := blk5 a0; obtain ⟨p5, p6, _, _⟩ := blk2 a1; obtain ⟨p7, p8, _, _⟩ := blk2 a2)
          | (go_at_call 17; (with_reducible refine (hfew _).mono ?_); clear hfew; rintro e w2 ⟨rfl, hb2⟩; have hB2 := below_call hB1 hB1.size hb2; have d0 := bl_own hb2 a0; have d1 := bl_own hb2 a1; have d2 := bl_own hb2 a2; obtain ⟨q0, q1, q2, q3, q4⟩ := blk5 d0; obtain ⟨q5, q6, _, _⟩ := blk2 d1; obtain ⟨q7, q8, _, _⟩ := blk2 d2)
          | (go_at_call 35; (with_reducible refine (hrsu _ hB2).mono ?_); clear hrsu; rintro e w3 ⟨rfl, hb3⟩; have hB3 := below_call hB2 hB2.size hb3; have f0 := bl_own hb3 d0; have f1 := bl_own hb3 d1; have f2 := bl_own hb3 d2; obtain ⟨r0, r1, r2, r3, r4⟩ := blk5 f0; obtain ⟨r5, r6, _, _⟩ := blk2 f1; obtain ⟨r7, r8, _, _⟩ := blk2 f2)
          | (go_at_call 36; (with_reducible refine (hto _ hB3).mono ?_); clear hto; rintro e w4 ⟨rfl, hb4⟩; have hB4 := below_call hB3 hB3.size hb4; have hl5 : Below w4.heap.size w4 (w4.alloc (.cells #[.int .u64 ty.hi, .int .u64 ty.lo] 35)) := (Below.refl _ w4).alloc (Nat.le_refl _) _; have hB5 := below_call hB4 hB4.size hl5; have g0 := bl_own hl5 (bl_own hb4 f0); have g1 := bl_own hl5 (bl_own hb4 f1); have g2 := bl_own hl5 (bl_own hb4 f2); have gh := ha_at (w := w4) (o := .cells #[.int .u64 ty.hi, .int .u64 ty.lo] 35) (k := w4.heap.size) rfl; obtain ⟨s0, s1, s2, s3, s4⟩ := blk5 g0; obtain ⟨s5, s6, _, _⟩ := blk2 g1; obtain ⟨s7, s8, _, _⟩ := blk2 g2)
          | (go_at_call 37; (with_reducible refine (hrto _ hB5).mono ?_); clear hrto; rintro e w6 ⟨rfl, hb6⟩; have hB6 := below_call hB5 hB5.size hb6; have hl7 : Below w6.heap.size w6 (w6.alloc (.cells #[.int .u64 ty.hi, .int .u64 ty.lo] 35)) := (Below.refl _ w6).alloc (Nat.le_refl _) _; have hB7 := below_call hB6 hB6.size hl7; have i0 := bl_own hl7 (bl_own hb6 g0); have i1 := bl_own hl7 (bl_own hb6 g1); have i2 := bl_own hl7 (bl_own hb6 g2); have ih := bl_own hl7 (bl_own hb6 gh); have ih2 := ha_at (w := w6) (o := .cells #[.int .u64 ty.hi, .int .u64 ty.lo] 35) (k := w6.heap.size) rfl))
        generalize w6.alloc (.cells #[.int .u64 ty.hi, .int .u64 ty.lo] 35) = w7 at hB7 i0 i1 i2 ih ih2 ⊢
        clear p0 q0 r0 s0 p1 q1 r1 s1 p2 q2 r2 s2 p3 q3 r3 s3 p4 q4 r4 s4 p5 q5 r5 s5 p6 q6 r6 s6 p7 q7 r7 s7 p8 q8 r8 s8 a0 d0 f0 b0 g0 a1 d1 f1 b1 g1 a2 d2 f2 b2 g2 gh hl5 hl7 hb1 hb2 hb3 hb4 hb6 hB hB1 hB2 hB3 hB4 hB5 hB6 hW
        obtain ⟨t0, t1, t2, t3, t4⟩ := blk5 i0
        obtain ⟨t5, t6, _, _⟩ := blk2 i1
        obtain ⟨t7, t8, _, _⟩ := blk2 i2
        obtain ⟨t9, t10, _, _⟩ := blk2 ih
        obtain ⟨t11, t12, _, _⟩ := blk2 ih2
        clear i0 i1 i2 ih ih2
        have yt0 := gr_cell t0
        have yt1 := gr_cell t1
        have yt2 := gr_cell t2
        have yt3 := gr_cell t3
        have yt4 := gr_cell t4
        have yt5 := gr_cell t5
        have yt6 := gr_cell t6
        have yt7 := gr_cell t7
        have yt8 := gr_cell t8
        have yt9 := gr_cell t9
        have yt10 := gr_cell t10
        have yt11 := gr_cell t11
        have yt12 := gr_cell t12
        have hV : ∀ p, Below w.heap.size w (gr w7 p) := fun p => hB7.trans ((gr_below _ _).mono hB7.size)
        refine wp_region_gr (by kernel_rfl) (by kernel_rfl) ?_
        repeat (go_big_quiet_step ((first
          | (go_at_call 38; with_reducible exact Calls.gr_of (hfo _ (hV _)))
          | (go_at_call 39; with_reducible exact Calls.gr_of (hrfo _ (hV _)))
          | (go_at_call 40; with_reducible exact Calls.gr_of (hsu _ (hV _))))))
        refine wpQuiet_nil ?_
        rintro _ ⟨pq, rfl⟩
        go_wp2
        go_ret
        exact ⟨rfl, hV _⟩
    · have hcase : 1099511627776 < c.num ∨ (¬ 1099511627776 < c.num ∧ c.num < -1099511627776) ∨ (¬ 1099511627776 < c.num ∧ ¬ c.num < -1099511627776 ∧ 1099511627776 < c.den) ∨ (¬ 1099511627776 < c.num ∧ ¬ c.num < -1099511627776 ∧ ¬ 1099511627776 < c.den ∧ c.den < -1099511627776) := by
        unfold NumFew at hnf
        omega
      clear hnf
      unfold cfgv at *
      unfold idv at *
      have hW : ∃ W, ((w.alloc (.cells #[.slice A c.W.length k, .int .u64 c.seed, .int .i64 c.epoch, .int .i64 c.num, .int .i64 c.den] 25)).alloc (.cells #[.slice A2 l.length k2, .slice A3 vs.length k3] 29)).alloc (.cells #[.int .u64 x.hi, .int .u64 x.lo] 35) = W := ⟨_, rfl⟩
      obtain ⟨W, hW⟩ := hW
      have hB : Below w.heap.size w W := by subst hW; exact (((Below.refl _ w).alloc (Nat.le_refl _) _).alloc (by simp <;> omega) _).alloc (by simp <;> omega) _
      have b0 : W.heap[w.heap.size]? = some (.cells #[.slice A c.W.length k, .int .u64 c.seed, .int .i64 c.epoch, .int .i64 c.num, .int .i64 c.den] 25 (0, 0)) := by subst hW; exact ha_lt (ha_lt (ha_at rfl))
      have b1 : W.heap[w.heap.size + 1]? = some (.cells #[.slice A2 l.length k2, .slice A3 vs.length k3] 29 (0, 0)) := by subst hW; exact ha_lt (ha_at (by simp))
      have b2 : W.heap[w.heap.size + 1 + 1]? = some (.cells #[.int .u64 x.hi, .int .u64 x.lo] 35 (0, 0)) := by subst hW; exact ha_at (by simp)
      rcases hcase with h1 | ⟨h1, h2⟩ | ⟨h1, h2, h3⟩ | ⟨h1, h2, h3, h4⟩
      · go_enter Tryz.func9, Tryz.ntmps9
        go_wp2_with (first
          | (go_at_call 34; (with_reducible refine (haw _).mono ?_); clear haw; rintro e w1 ⟨rfl, hb1⟩; have hB1 := below_call hB hB.size hb1; have a0 := bl_own hb1 b0; have a1 := bl_own hb1 b1; have a2 := bl_own hb1 b2; obtain ⟨p0, p1, p2, p3, p4⟩ := blk5 a0; obtain ⟨p5, p6, _, _⟩ := blk2 a1; obtain ⟨p7, p8, _, _⟩ := blk2 a2)
          | (go_at_call 17; (with_reducible refine (hfew _).mono ?_); clear hfew; rintro e w2 ⟨rfl, hb2⟩; have hB2 := below_call hB1 hB1.size hb2; have d0 := bl_own hb2 a0; have d1 := bl_own hb2 a1; have d2 := bl_own hb2 a2; obtain ⟨q0, q1, q2, q3, q4⟩ := blk5 d0; obtain ⟨q5, q6, _, _⟩ := blk2 d1; obtain ⟨q7, q8, _, _⟩ := blk2 d2))
        go_ret
        exact ⟨rfl, hB2⟩
      · go_enter Tryz.func9, Tryz.ntmps9
        go_wp2_with (first
          | (go_at_call 34; (with_reducible refine (haw _).mono ?_); clear haw; rintro e w1 ⟨rfl, hb1⟩; have hB1 := below_call hB hB.size hb1; have a0 := bl_own hb1 b0; have a1 := bl_own hb1 b1; have a2 := bl_own hb1 b2; obtain ⟨p0, p1, p2, p3, p4⟩ := blk5 a0; obtain ⟨p5, p6, _, _⟩ := blk2 a1; obtain ⟨p7, p8, _, _⟩ := blk2 a2)
          | (go_at_call 17; (with_reducible refine (hfew _).mono ?_); clear hfew; rintro e w2 ⟨rfl, hb2⟩; have hB2 := below_call hB1 hB1.size hb2; have d0 := bl_own hb2 a0; have d1 := bl_own hb2 a1; have d2 := bl_own hb2 a2; obtain ⟨q0, q1, q2, q3, q4⟩ := blk5 d0; obtain ⟨q5, q6, _, _⟩ := blk2 d1; obtain ⟨q7, q8, _, _⟩ := blk2 d2))
        go_ret
        exact ⟨rfl, hB2⟩
      · go_enter Tryz.func9, Tryz.ntmps9
        go_wp2_with (first
          | (go_at_call 34; (with_reducible refine (haw _).mono ?_); clear haw; rintro e w1 ⟨rfl, hb1⟩; have hB1 := below_call hB hB.size hb1; have a0 := bl_own hb1 b0; have a1 := bl_own hb1 b1; have a2 := bl_own hb1 b2; obtain ⟨p0, p1, p2, p3, p4⟩ := blk5 a0; obtain ⟨p5, p6, _, _⟩ := blk2 a1; obtain ⟨p7, p8, _, _⟩ := blk2 a2)
          | (go_at_call 17; (with_reducible refine (hfew _).mono ?_); clear hfew; rintro e w2 ⟨rfl, hb2⟩; have hB2 := below_call hB1 hB1.size hb2; have d0 := bl_own hb2 a0; have d1 := bl_own hb2 a1; have d2 := bl_own hb2 a2; obtain ⟨q0, q1, q2, q3, q4⟩ := blk5 d0; obtain ⟨q5, q6, _, _⟩ := blk2 d1; obtain ⟨q7, q8, _, _⟩ := blk2 d2))
        go_ret
        exact ⟨rfl, hB2⟩
      · go_enter Tryz.func9, Tryz.ntmps9
        go_wp2_with (first
          | (go_at_call 34; (with_reducible refine (haw _).mono ?_); clear haw; rintro e w1 ⟨rfl, hb1⟩; have hB1 := below_call hB hB.size hb1; have a0 := bl_own hb1 b0; have a1 := bl_own hb1 b1; have a2 := bl_own hb1 b2; obtain ⟨p0, p1, p2, p3, p4⟩ := blk5 a0; obtain ⟨p5, p6, _, _⟩ := blk2 a1; obtain ⟨p7, p8, _, _⟩ := blk2 a2)
          | (go_at_call 17; (with_reducible refine (hfew _).mono ?_); clear hfew; rintro e w2 ⟨rfl, hb2⟩; have hB2 := below_call hB1 hB1.size hb2; have d0 := bl_own hb2 a0; have d1 := bl_own hb2 a1; have d2 := bl_own hb2 a2; obtain ⟨q0, q1, q2, q3, q4⟩ := blk5 d0; obtain ⟨q5, q6, _, _⟩ := blk2 d1; obtain ⟨q7, q8, _, _⟩ := blk2 d2))
        go_ret
        exact ⟨rfl, hB2⟩
  · rw [decide_eq_false hsm] at hfew
    clear hsm
    unfold cfgv at *
    unfold idv at *
    have hW : ∃ W, ((w.alloc (.cells #[.slice A c.W.length k, .int .u64 c.seed, .int .i64 c.epoch, .int .i64 c.num, .int .i64 c.den] 25)).alloc (.cells #[.slice A2 l.length k2, .slice A3 vs.length k3] 29)).alloc (.cells #[.int .u64 x.hi, .int .u64 x.lo] 35) = W := ⟨_, rfl⟩
    obtain ⟨W, hW⟩ := hW
    have hB : Below w.heap.size w W := by subst hW; exact (((Below.refl _ w).alloc (Nat.le_refl _) _).alloc (by simp <;> omega) _).alloc (by simp <;> omega) _
    have b0 : W.heap[w.heap.size]? = some (.cells #[.slice A c.W.length k, .int .u64 c.seed, .int .i64 c.epoch, .int .i64 c.num, .int .i64 c.den] 25 (0, 0)) := by subst hW; exact ha_lt (ha_lt (ha_at rfl))
    have b1 : W.heap[w.heap.size + 1]? = some (.cells #[.slice A2 l.length k2, .slice A3 vs.length k3] 29 (0, 0)) := by subst hW; exact ha_lt (ha_at (by simp))
    have b2 : W.heap[w.heap.size + 1 + 1]? = some (.cells #[.int .u64 x.hi, .int .u64 x.lo] 35 (0, 0)) := by subst hW; exact ha_at (by simp)
    go_enter Tryz.func9, Tryz.ntmps9
    go_wp2_with (first
      | (go_at_call 34; (with_reducible refine (haw _).mono ?_); clear haw; rintro e w1 ⟨rfl, hb1⟩; have hB1 := below_call hB hB.size hb1; have a0 := bl_own hb1 b0; have a1 := bl_own hb1 b1; have a2 := bl_own hb1 b2; obtain ⟨p0, p1, p2, p3, p4⟩ := blk5 a0; obtain ⟨p5, p6, _, _⟩ := blk2 a1; obtain ⟨p7, p8, _, _⟩ := blk2 a2)
      | (go_at_call 17; (with_reducible refine (hfew _).mono ?_); clear hfew; rintro e w2 ⟨rfl, hb2⟩; have hB2 := below_call hB1 hB1.size hb2; have d0 := bl_own hb2 a0; have d1 := bl_own hb2 a1; have d2 := bl_own hb2 a2; obtain ⟨q0, q1, q2, q3, q4⟩ := blk5 d0; obtain ⟨q5, q6, _, _⟩ := blk2 d1; obtain ⟨q7, q8, _, _⟩ := blk2 d2))
    go_ret
    exact ⟨rfl, hB2⟩
theorem tells15_walk (A : Option Addr) (c : Cfg) (k : Nat) (A2 : Option Addr) (l : List Blk) (k2 : Nat) (A3 : Option Addr) (vs : List Vote) (k3 : Nat) (s : Int) (x : ID) (w : World) (_ : c.W.length ≤ k) (_ : k ≤ maxLen) (hr : Rd 1 encI w A c.W) (_ : c.Ok) (_ : l.length ≤ k2) (_ : k2 ≤ maxLen) (hr2 : Rd 5 encBlk w A2 l) (hok : ∀ b ∈ l, b.Ok) (_ : A2 = none → k2 = 0) (hlk : vs.length ≤ k3) (hkm : k3 ≤ maxLen) (hr3 : Rd 4 encVote w A3 vs) (_ : ∀ b ∈ vs, b.Ok) (hN : A3 = none → k3 = 0) (_ : I64 s) (_ : x.Ok) :
    Calls Tryz.prog 9 #[cfgv A k c, .agg #[.slice A2 l.length k2, .slice A3 vs.length k3], .int .i64 s, idv x] w fun e w' => e = .returned (.bool true) ∧ Below w.heap.size w w' :=
  tells15_any c l vs s x A A2 A3 k k2 k3 w hok hr hr2 hr3
end Go.Proofs.YtaohkcdfjjiggaaGreat
