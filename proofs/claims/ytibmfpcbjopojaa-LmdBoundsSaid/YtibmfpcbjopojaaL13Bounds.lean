/- LmdBounds, walked. -/
import Derived.Test.YtibmfpcbjopojaaGJ
import Derived.Test.YtibmfpcbjopojaaGI
import Derived.Test.YtibmfpcbjopojaaGF
namespace Go.Proofs.Ytibmfpcbjopojaa
open Go.RowKit
set_option linter.unusedVariables false
set_option maxRecDepth 100000 in
set_option maxHeartbeats 8000000 in
theorem bounds13_any (c : Cfg) (l : List Blk) (vs : List Vote) (u : Int) (bo : ID) (pct : Int) (lo x : ID) (A A2 A3 : Option Addr) (k k2 k3 : Nat) (w : World) (hok : ∀ b ∈ l, b.Ok) (hr : Rd 1 encI w A c.W) (hr2 : Rd 5 encBlk w A2 l) (hr3 : Rd 4 encVote w A3 vs) :
    Calls Try.prog 5 #[cfgv A k c, .slice A2 l.length k2, .slice A3 vs.length k3, .int .i64 u, idv bo, .int .i64 pct, idv lo, idv x] w fun e w' => e = .returned (.bool true) ∧ Below w.heap.size w w' := by
  have hm := hr.1
  have hm2 := hr2.1
  have hm3 := hr3.1
  have haw := fun V => awake13_any V
  have hfew := fun V => fewN_any c l.length vs.length A A2 A3 k k2 k3 V hm hm2 hm3
  by_cases hsm : c.W.length ≤ 40 ∧ l.length ≤ 20 ∧ vs.length ≤ 30
  · rw [decide_eq_true hsm] at hfew
    obtain ⟨hsm1, hsm2, hsm3⟩ := hsm
    have hll := lastL_len vs u
    have hbo := fun V (hV : Below w.heap.size w V) => boost_any c pct A k V (hr.below hV)
    have hon := fun V (hV : Below w.heap.size w V) => lon_any c l vs u bo pct x A A2 A3 k k2 k3 V (hr.below hV) (hr2.below hV) (hr3.below hV) (by omega) (by omega)
    have hon2 := fun V (hV : Below w.heap.size w V) => lon_any c l vs u bo pct lo A A2 A3 k k2 k3 V (hr.below hV) (hr2.below hV) (hr3.below hV) (by omega) (by omega)
    have htot := fun V (hV : Below w.heap.size w V) => dtotal_any c A k V (hr.below hV)
    have hun := fun V (hV : Below w.heap.size w V) => under_any l lo x A2 k2 V (hr2.below hV) (by omega)
    have hlaw := fun h => lmd_low c (l := l) (m := lastL vs u) (bo := bo) (pct := pct) (low := lo) (x := x) h
    have hw := lmdW_bd c l (lastL vs u) bo pct x
    have hob : 0 ≤ onC c l (lastL vs u) x := (weightC_bd c _).1
    have hot : onC c l (lastL vs u) x ≤ totalC c := weightC_total c _
    have hbb := boostC_bd c pct
    have htb := totalC_bd c
    obtain ⟨q, hq⟩ : ∃ q, boostC c pct = q := ⟨_, rfl⟩
    obtain ⟨n, hn⟩ : ∃ n, lmdW c l (lastL vs u) bo pct x = n := ⟨_, rfl⟩
    obtain ⟨n2, hn2⟩ : ∃ n2, lmdW c l (lastL vs u) bo pct lo = n2 := ⟨_, rfl⟩
    obtain ⟨t, ht⟩ : ∃ t, totalC c = t := ⟨_, rfl⟩
    rw [hq] at hbo hbb hw
    rw [hn] at hon hlaw hw
    rw [hn2] at hon2 hlaw
    rw [ht] at htot hot hbb htb
    have hn0 : 0 ≤ n := by omega
    have hn1 : n ≤ t + q := by omega
    obtain ⟨ux, hux⟩ : ∃ ux, decide (lo ∈ chain l x) = ux := ⟨_, rfl⟩
    rw [hux] at hun
    have hlaw' := Lib.hid (fun e : ux = true => hlaw (by rw [← hux] at e; simpa using e))
    obtain ⟨hq0, hqt, _⟩ := hbb
    obtain ⟨ht0, ht1⟩ := htb
    have hc1 : ¬ q < 0 := by omega
    have hc2 : ¬ t < q := by omega
    have hc3 : ¬ n < 0 := by omega
    have hc4 : ¬ t + q < n := by omega
    clear hq hn hn2 ht hux hll hlaw hw hob hot
    unfold cfgv idv at *
    have hW : ∃ W, (((w.alloc (.cells #[.slice A c.W.length k, .int .u64 c.seed, .int .i64 c.epoch, .int .i64 c.num, .int .i64 c.den] 25)).alloc (.cells #[.int .u64 bo.hi, .int .u64 bo.lo] 29)).alloc (.cells #[.int .u64 lo.hi, .int .u64 lo.lo] 29)).alloc (.cells #[.int .u64 x.hi, .int .u64 x.lo] 29) = W := ⟨_, rfl⟩
    obtain ⟨W, hW⟩ := hW
    have hB : Below w.heap.size w W := by subst hW; exact ((((Below.refl _ w).alloc (Nat.le_refl _) _).alloc (by simp <;> omega) _).alloc (by simp <;> omega) _).alloc (by simp <;> omega) _
    have b0 : W.heap[w.heap.size]? = some (.cells #[.slice A c.W.length k, .int .u64 c.seed, .int .i64 c.epoch, .int .i64 c.num, .int .i64 c.den] 25 (0, 0)) := by subst hW; exact ha_lt (ha_lt (ha_lt (ha_at rfl)))
    have b1 : W.heap[w.heap.size + 1]? = some (.cells #[.int .u64 bo.hi, .int .u64 bo.lo] 29 (0, 0)) := by subst hW; exact ha_lt (ha_lt (ha_at (by simp)))
    have b2 : W.heap[w.heap.size + 1 + 1]? = some (.cells #[.int .u64 lo.hi, .int .u64 lo.lo] 29 (0, 0)) := by subst hW; exact ha_lt (ha_at (by simp))
    have b3 : W.heap[w.heap.size + 1 + 1 + 1]? = some (.cells #[.int .u64 x.hi, .int .u64 x.lo] 29 (0, 0)) := by subst hW; exact ha_at (by simp)
    cases ux
    all_goals
      go_enter Try.func5, Try.ntmps5
      go_wp2_with (first
        | (go_at_call 11; (with_reducible refine (haw _).mono ?_); clear haw; rintro e w1 ⟨rfl, hb1⟩; have hB1 := below_call hB hB.size hb1; have a0 := bl_own hb1 b0; have a1 := bl_own hb1 b1; have a2 := bl_own hb1 b2; have a3 := bl_own hb1 b3; obtain ⟨p0, p1, p2, p3, p4⟩ := blk5 a0; obtain ⟨p5, p6, _, _⟩ := blk2 a1; obtain ⟨p7, p8, _, _⟩ := blk2 a2; obtain ⟨p9, p10, _, _⟩ := blk2 a3)
        | (go_at_call 12; (with_reducible refine (hfew _).mono ?_); clear hfew; rintro e w2 ⟨rfl, hb2⟩; have hB2 := below_call hB1 hB1.size hb2; have d0 := bl_own hb2 a0; have d1 := bl_own hb2 a1; have d2 := bl_own hb2 a2; have d3 := bl_own hb2 a3; obtain ⟨q0, q1, q2, q3, q4⟩ := blk5 d0; obtain ⟨q5, q6, _, _⟩ := blk2 d1; obtain ⟨q7, q8, _, _⟩ := blk2 d2; obtain ⟨q9, q10, _, _⟩ := blk2 d3)
        | (go_at_call 15; (with_reducible refine (hbo _ hB2).mono ?_); clear hbo; rintro e w3 ⟨rfl, hb3⟩; have hB3 := below_call hB2 hB2.size hb3; have f0 := bl_own hb3 d0; have f1 := bl_own hb3 d1; have f2 := bl_own hb3 d2; have f3 := bl_own hb3 d3; obtain ⟨r0, r1, r2, r3, r4⟩ := blk5 f0; obtain ⟨r5, r6, _, _⟩ := blk2 f1; obtain ⟨r7, r8, _, _⟩ := blk2 f2; obtain ⟨r9, r10, _, _⟩ := blk2 f3)
        | (go_at_call 17; (with_reducible refine (hon _ hB3).mono ?_); clear hon; rintro e w4 ⟨rfl, hb4⟩; have hB4 := below_call hB3 hB3.size hb4; have g0 := bl_own hb4 f0; have g1 := bl_own hb4 f1; have g2 := bl_own hb4 f2; have g3 := bl_own hb4 f3; obtain ⟨s0, s1, s2, s3, s4⟩ := blk5 g0; obtain ⟨s5, s6, _, _⟩ := blk2 g1; obtain ⟨s7, s8, _, _⟩ := blk2 g2; obtain ⟨s9, s10, _, _⟩ := blk2 g3)
        | (go_at_call 19; (with_reducible refine (htot _ hB4).mono ?_); rintro e w5 ⟨rfl, hb5⟩; have hB5 := below_call hB4 hB4.size hb5; have i0 := bl_own hb5 g0; have i1 := bl_own hb5 g1; have i2 := bl_own hb5 g2; have i3 := bl_own hb5 g3; obtain ⟨t0, t1, t2, t3, t4⟩ := blk5 i0; obtain ⟨t5, t6, _, _⟩ := blk2 i1; obtain ⟨t7, t8, _, _⟩ := blk2 i2; obtain ⟨t9, t10, _, _⟩ := blk2 i3; clear hB4)
        | (go_at_call 19; (with_reducible refine (htot _ hB5).mono ?_); rintro e w6 ⟨rfl, hb6⟩; have hB6 := below_call hB5 hB5.size hb6; have j0 := bl_own hb6 i0; have j1 := bl_own hb6 i1; have j2 := bl_own hb6 i2; have j3 := bl_own hb6 i3; obtain ⟨u0, u1, u2, u3, u4⟩ := blk5 j0; obtain ⟨u5, u6, _, _⟩ := blk2 j1; obtain ⟨u7, u8, _, _⟩ := blk2 j2; obtain ⟨u9, u10, _, _⟩ := blk2 j3; clear hB5)
        | (go_at_call 20; (with_reducible refine (hun _ hB6).mono ?_); clear hun; rintro e w7 ⟨rfl, hb7⟩; have hB7 := below_call hB6 hB6.size hb7; have k0 := bl_own hb7 j0; have k1 := bl_own hb7 j1; have k2 := bl_own hb7 j2; have k3 := bl_own hb7 j3; obtain ⟨v0, v1, v2, v3, v4⟩ := blk5 k0; obtain ⟨v5, v6, _, _⟩ := blk2 k1; obtain ⟨v7, v8, _, _⟩ := blk2 k2; obtain ⟨v9, v10, _, _⟩ := blk2 k3)
        | (go_at_call 17; (with_reducible refine (hon2 _ hB7).mono ?_); clear hon2; rintro e w8 ⟨rfl, hb8⟩; have hB8 := below_call hB7 hB7.size hb8; have hge := hlaw'.out (by simp)))
      go_ret
      first | exact ⟨rfl, hB8⟩ | exact ⟨ret_bool (by simp), hB8⟩ | exact ⟨ret_bool (decide_eq_true hge), hB8⟩ | exact ⟨rfl, hB7⟩
  · rw [decide_eq_false hsm] at hfew
    clear hsm
    unfold cfgv idv at *
    have hW : ∃ W, (((w.alloc (.cells #[.slice A c.W.length k, .int .u64 c.seed, .int .i64 c.epoch, .int .i64 c.num, .int .i64 c.den] 25)).alloc (.cells #[.int .u64 bo.hi, .int .u64 bo.lo] 29)).alloc (.cells #[.int .u64 lo.hi, .int .u64 lo.lo] 29)).alloc (.cells #[.int .u64 x.hi, .int .u64 x.lo] 29) = W := ⟨_, rfl⟩
    obtain ⟨W, hW⟩ := hW
    have hB : Below w.heap.size w W := by subst hW; exact ((((Below.refl _ w).alloc (Nat.le_refl _) _).alloc (by simp <;> omega) _).alloc (by simp <;> omega) _).alloc (by simp <;> omega) _
    have b0 : W.heap[w.heap.size]? = some (.cells #[.slice A c.W.length k, .int .u64 c.seed, .int .i64 c.epoch, .int .i64 c.num, .int .i64 c.den] 25 (0, 0)) := by subst hW; exact ha_lt (ha_lt (ha_lt (ha_at rfl)))
    have b1 : W.heap[w.heap.size + 1]? = some (.cells #[.int .u64 bo.hi, .int .u64 bo.lo] 29 (0, 0)) := by subst hW; exact ha_lt (ha_lt (ha_at (by simp)))
    have b2 : W.heap[w.heap.size + 1 + 1]? = some (.cells #[.int .u64 lo.hi, .int .u64 lo.lo] 29 (0, 0)) := by subst hW; exact ha_lt (ha_at (by simp))
    have b3 : W.heap[w.heap.size + 1 + 1 + 1]? = some (.cells #[.int .u64 x.hi, .int .u64 x.lo] 29 (0, 0)) := by subst hW; exact ha_at (by simp)
    go_enter Try.func5, Try.ntmps5
    go_wp2_with (first
      | (go_at_call 11; (with_reducible refine (haw _).mono ?_); clear haw; rintro e w1 ⟨rfl, hb1⟩; have hB1 := below_call hB hB.size hb1; have a0 := bl_own hb1 b0; have a1 := bl_own hb1 b1; have a2 := bl_own hb1 b2; have a3 := bl_own hb1 b3; obtain ⟨p0, p1, p2, p3, p4⟩ := blk5 a0; obtain ⟨p5, p6, _, _⟩ := blk2 a1; obtain ⟨p7, p8, _, _⟩ := blk2 a2; obtain ⟨p9, p10, _, _⟩ := blk2 a3)
      | (go_at_call 12; (with_reducible refine (hfew _).mono ?_); clear hfew; rintro e w2 ⟨rfl, hb2⟩; have hB2 := below_call hB1 hB1.size hb2; have d0 := bl_own hb2 a0; have d1 := bl_own hb2 a1; have d2 := bl_own hb2 a2; have d3 := bl_own hb2 a3; obtain ⟨q0, q1, q2, q3, q4⟩ := blk5 d0; obtain ⟨q5, q6, _, _⟩ := blk2 d1; obtain ⟨q7, q8, _, _⟩ := blk2 d2; obtain ⟨q9, q10, _, _⟩ := blk2 d3))
    go_ret
    exact ⟨rfl, hB2⟩
theorem bounds13_walk (A : Option Addr) (c : Cfg) (k : Nat) (A2 : Option Addr) (l : List Blk) (k2 : Nat) (A3 : Option Addr) (vs : List Vote) (k3 : Nat) (u : Int) (bo : ID) (pct : Int) (lo x : ID) (w : World) (_ : c.W.length ≤ k) (_ : k ≤ maxLen) (hr : Rd 1 encI w A c.W) (_ : c.Ok) (_ : l.length ≤ k2) (_ : k2 ≤ maxLen) (hr2 : Rd 5 encBlk w A2 l) (hok : ∀ b ∈ l, b.Ok) (_ : vs.length ≤ k3) (_ : k3 ≤ maxLen) (hr3 : Rd 4 encVote w A3 vs) (_ : ∀ b ∈ vs, b.Ok) (_ : I64 u) (_ : bo.Ok) (_ : I64 pct) (_ : lo.Ok) (_ : x.Ok) :
    Calls Try.prog 5 #[cfgv A k c, .slice A2 l.length k2, .slice A3 vs.length k3, .int .i64 u, idv bo, .int .i64 pct, idv lo, idv x] w fun e w' => e = .returned (.bool true) ∧ Below w.heap.size w w' :=
  bounds13_any c l vs u bo pct lo x A A2 A3 k k2 k3 w hok hr hr2 hr3
end Go.Proofs.Ytibmfpcbjopojaa
