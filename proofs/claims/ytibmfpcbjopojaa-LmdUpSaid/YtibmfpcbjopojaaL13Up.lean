/- LmdUp, walked. -/
import Derived.Test.YtibmfpcbjopojaaGJ
import Derived.Test.YtibmfpcbjopojaaGI
import Derived.Test.YtibmfpcbjopojaaGF
namespace Go.Proofs.Ytibmfpcbjopojaa
open Go.RowKit
set_option linter.unusedVariables false
set_option maxRecDepth 100000 in
set_option maxHeartbeats 8000000 in
theorem up13_any (c : Cfg) (l : List Blk) (vs : List Vote) (u : Int) (bo : ID) (pct mo : Int) (A A2 A3 : Option Addr) (k k2 k3 : Nat) (w : World) (hok : ∀ b ∈ l, b.Ok) (hmI : I64 mo) (hr : Rd 1 encI w A c.W) (hr2 : Rd 5 encBlk w A2 l) (hr3 : Rd 4 encVote w A3 vs) :
    Calls Try.prog 6 #[cfgv A k c, .slice A2 l.length k2, .slice A3 vs.length k3, .int .i64 u, idv bo, .int .i64 pct, .int .i64 mo] w fun e w' => e = .returned (.bool true) ∧ Below w.heap.size w w' := by
  have hm := hr.1
  have hm2 := hr2.1
  have hm3 := hr3.1
  have haw := fun V => awake13_any V
  have hfew := fun V => fewN_any c l.length vs.length A A2 A3 k k2 k3 V hm hm2 hm3
  by_cases hsm : c.W.length ≤ 40 ∧ l.length ≤ 20 ∧ vs.length ≤ 30
  · rw [decide_eq_true hsm] at hfew
    obtain ⟨hsm1, hsm2, hsm3⟩ := hsm
    obtain ⟨hI1, hI2⟩ := hmI
    have hh := fun (p : Int) V (hV : Below w.heap.size w V) => lhead_any c l vs u bo p A A2 A3 k k2 k3 V (hr.below hV) (hr2.below hV) (hr3.below hV) (by omega) (by omega)
    have hun := fun (y : ID) V (hV : Below w.heap.size w V) => under_any l bo y A2 k2 V (hr2.below hV) (by omega)
    unfold cfgv idv at *
    have hW : ∃ W, (w.alloc (.cells #[.slice A c.W.length k, .int .u64 c.seed, .int .i64 c.epoch, .int .i64 c.num, .int .i64 c.den] 25)).alloc (.cells #[.int .u64 bo.hi, .int .u64 bo.lo] 29) = W := ⟨_, rfl⟩
    obtain ⟨W, hW⟩ := hW
    have hB : Below w.heap.size w W := by subst hW; exact ((Below.refl _ w).alloc (Nat.le_refl _) _).alloc (by simp <;> omega) _
    have b0 : W.heap[w.heap.size]? = some (.cells #[.slice A c.W.length k, .int .u64 c.seed, .int .i64 c.epoch, .int .i64 c.num, .int .i64 c.den] 25 (0, 0)) := by subst hW; exact ha_lt (ha_at rfl)
    have b1 : W.heap[w.heap.size + 1]? = some (.cells #[.int .u64 bo.hi, .int .u64 bo.lo] 29 (0, 0)) := by subst hW; exact ha_at (by simp)
    by_cases gA : 0 ≤ pct ∧ 0 ≤ mo ∧ pct ≤ 100 ∧ pct + mo ≤ 100
    · obtain ⟨g1, g2, g3, g4⟩ := gA
      have hlaw := fun h => decide_eq_true (lmd_up c (l := l) (m := lastL vs u) (bo := bo) (p := pct) (q := pct + mo) g1 (by omega) g4 h)
      have hha := hh pct
      have hhb := hh (pct + mo)
      obtain ⟨ha, hae⟩ : ∃ ha, lmdHead c l (lastL vs u) bo pct = ha := ⟨_, rfl⟩
      obtain ⟨hb', hbe⟩ : ∃ hb', lmdHead c l (lastL vs u) bo (pct + mo) = hb' := ⟨_, rfl⟩
      rw [hae] at hha hlaw
      rw [hbe] at hhb hlaw
      have hua := hun ha
      have hub := hun hb'
      obtain ⟨ua, huae⟩ : ∃ ua, decide (bo ∈ chain l ha) = ua := ⟨_, rfl⟩
      obtain ⟨ub, hube⟩ : ∃ ub, decide (bo ∈ chain l hb') = ub := ⟨_, rfl⟩
      rw [huae] at hua
      rw [hube] at hub hlaw
      have hlaw' := Lib.hid (fun e : ua = true => hlaw (by rw [← huae] at e; simpa using e))
      clear hh hun hae hbe huae hube hlaw hI1 hI2
      have gc : ¬ (100 < pct) := by omega
      have gd : ¬ (pct + mo < pct) := by omega
      have ge : ¬ (100 < pct + mo) := by omega
      have gf : ¬ (pct < 0) := by omega
      have gg : ¬ (mo < 0) := by omega
      cases ua
      all_goals
        go_enter Try.func6, Try.ntmps6
        go_wp2_with (first
          | (go_at_call 11; (with_reducible refine (haw _).mono ?_); clear haw; rintro e w1 ⟨rfl, hb1⟩; have hB1 := below_call hB hB.size hb1; have a0 := bl_own hb1 b0; have a1 := bl_own hb1 b1; obtain ⟨p0, p1, p2, p3, p4⟩ := blk5 a0; obtain ⟨p5, p6, _, _⟩ := blk2 a1)
          | (go_at_call 12; (with_reducible refine (hfew _).mono ?_); clear hfew; rintro e w2 ⟨rfl, hb2⟩; have hB2 := below_call hB1 hB1.size hb2; have d0 := bl_own hb2 a0; have d1 := bl_own hb2 a1; obtain ⟨q0, q1, q2, q3, q4⟩ := blk5 d0; obtain ⟨q5, q6, _, _⟩ := blk2 d1)
          | (go_at_call 18; (with_reducible refine (hha _ hB2).mono ?_); clear hha; rintro e w3 ⟨rfl, hb3⟩; have hB3 := below_call hB2 hB2.size hb3; have hl4 : Below w3.heap.size w3 (w3.alloc (.cells #[.int .u64 ha.hi, .int .u64 ha.lo] 29)) := (Below.refl _ w3).alloc (Nat.le_refl _) _; have hB4 := below_call hB3 hB3.size hl4; have f0 := bl_own hl4 (bl_own hb3 d0); have f1 := bl_own hl4 (bl_own hb3 d1); have fh := ha_at (w := w3) (o := .cells #[.int .u64 ha.hi, .int .u64 ha.lo] 29) (k := w3.heap.size) rfl; obtain ⟨r0, r1, r2, r3, r4⟩ := blk5 f0; obtain ⟨r5, r6, _, _⟩ := blk2 f1)
          | (go_at_call 18; (with_reducible refine (hhb _ hB4).mono ?_); clear hhb; rintro e w5 ⟨rfl, hb5⟩; have hB5 := below_call hB4 hB4.size hb5; have hl6 : Below w5.heap.size w5 (w5.alloc (.cells #[.int .u64 hb'.hi, .int .u64 hb'.lo] 29)) := (Below.refl _ w5).alloc (Nat.le_refl _) _; have hB6 := below_call hB5 hB5.size hl6; have g0 := bl_own hl6 (bl_own hb5 f0); have g1 := bl_own hl6 (bl_own hb5 f1); have gh1 := bl_own hl6 (bl_own hb5 fh); have gh2 := ha_at (w := w5) (o := .cells #[.int .u64 hb'.hi, .int .u64 hb'.lo] 29) (k := w5.heap.size) rfl; obtain ⟨s0, s1, s2, s3, s4⟩ := blk5 g0; obtain ⟨s5, s6, _, _⟩ := blk2 g1; obtain ⟨s7, s8, _, _⟩ := blk2 gh1)
          | (go_at_call 20; (with_reducible refine (hua _ hB6).mono ?_); clear hua; rintro e w7 ⟨rfl, hb7⟩; have hB7 := below_call hB6 hB6.size hb7; have i0 := bl_own hb7 g0; have i1 := bl_own hb7 g1; obtain ⟨t0, t1, t2, t3, t4⟩ := blk5 i0; obtain ⟨t5, t6, _, _⟩ := blk2 i1; obtain ⟨t7, t8, _, _⟩ := blk2 (bl_own hb7 gh2))
          | (go_at_call 20; (with_reducible refine (hub _ hB7).mono ?_); clear hub; rintro e w8 ⟨rfl, hb8⟩; have hB8 := below_call hB7 hB7.size hb8; have hge := hlaw'.out (by simp)))
        go_ret
        first | exact ⟨ret_bool hge, hB8⟩ | exact ⟨rfl, hB8⟩ | exact ⟨rfl, hB7⟩
    · have gB : pct < 0 ∨ (0 ≤ pct ∧ mo < 0) ∨ (0 ≤ pct ∧ 0 ≤ mo ∧ 100 < pct) ∨ (0 ≤ pct ∧ 0 ≤ mo ∧ pct ≤ 100 ∧ 100 < pct + mo ∧ pct + mo ≤ 9223372036854775807) ∨ (0 ≤ pct ∧ 0 ≤ mo ∧ pct ≤ 100 ∧ 9223372036854775807 < pct + mo ∧ pct + mo ≤ 9223372036854775907) := by omega
      clear gA
      rcases gB with g1 | ⟨g1, g2⟩ | ⟨g1, g2, g3⟩ | ⟨g1, g2, g3, g4, g5⟩ | ⟨g1, g2, g3, g4, g5⟩
      · clear hh hun hI1 hI2
        go_enter Try.func6, Try.ntmps6
        go_wp2_with (first
          | (go_at_call 11; (with_reducible refine (haw _).mono ?_); clear haw; rintro e w1 ⟨rfl, hb1⟩; have hB1 := below_call hB hB.size hb1; have a0 := bl_own hb1 b0; have a1 := bl_own hb1 b1; obtain ⟨p0, p1, p2, p3, p4⟩ := blk5 a0; obtain ⟨p5, p6, _, _⟩ := blk2 a1)
          | (go_at_call 12; (with_reducible refine (hfew _).mono ?_); clear hfew; rintro e w2 ⟨rfl, hb2⟩; have hB2 := below_call hB1 hB1.size hb2; have d0 := bl_own hb2 a0; have d1 := bl_own hb2 a1; obtain ⟨q0, q1, q2, q3, q4⟩ := blk5 d0; obtain ⟨q5, q6, _, _⟩ := blk2 d1))
        go_ret
        exact ⟨rfl, hB2⟩
      · clear hh hun hI1 hI2
        have gf : ¬ (pct < 0) := by omega
        go_enter Try.func6, Try.ntmps6
        go_wp2_with (first
          | (go_at_call 11; (with_reducible refine (haw _).mono ?_); clear haw; rintro e w1 ⟨rfl, hb1⟩; have hB1 := below_call hB hB.size hb1; have a0 := bl_own hb1 b0; have a1 := bl_own hb1 b1; obtain ⟨p0, p1, p2, p3, p4⟩ := blk5 a0; obtain ⟨p5, p6, _, _⟩ := blk2 a1)
          | (go_at_call 12; (with_reducible refine (hfew _).mono ?_); clear hfew; rintro e w2 ⟨rfl, hb2⟩; have hB2 := below_call hB1 hB1.size hb2; have d0 := bl_own hb2 a0; have d1 := bl_own hb2 a1; obtain ⟨q0, q1, q2, q3, q4⟩ := blk5 d0; obtain ⟨q5, q6, _, _⟩ := blk2 d1))
        go_ret
        exact ⟨rfl, hB2⟩
      · clear hh hun hI1 hI2
        have gf : ¬ (pct < 0) := by omega
        have gg : ¬ (mo < 0) := by omega
        go_enter Try.func6, Try.ntmps6
        go_wp2_with (first
          | (go_at_call 11; (with_reducible refine (haw _).mono ?_); clear haw; rintro e w1 ⟨rfl, hb1⟩; have hB1 := below_call hB hB.size hb1; have a0 := bl_own hb1 b0; have a1 := bl_own hb1 b1; obtain ⟨p0, p1, p2, p3, p4⟩ := blk5 a0; obtain ⟨p5, p6, _, _⟩ := blk2 a1)
          | (go_at_call 12; (with_reducible refine (hfew _).mono ?_); clear hfew; rintro e w2 ⟨rfl, hb2⟩; have hB2 := below_call hB1 hB1.size hb2; have d0 := bl_own hb2 a0; have d1 := bl_own hb2 a1; obtain ⟨q0, q1, q2, q3, q4⟩ := blk5 d0; obtain ⟨q5, q6, _, _⟩ := blk2 d1))
        go_ret
        exact ⟨rfl, hB2⟩
      · clear hh hun hI1 hI2
        have gf : ¬ (pct < 0) := by omega
        have gg : ¬ (mo < 0) := by omega
        have gh : ¬ (100 < pct) := by omega
        go_enter Try.func6, Try.ntmps6
        go_wp2_with (first
          | (go_at_call 11; (with_reducible refine (haw _).mono ?_); clear haw; rintro e w1 ⟨rfl, hb1⟩; have hB1 := below_call hB hB.size hb1; have a0 := bl_own hb1 b0; have a1 := bl_own hb1 b1; obtain ⟨p0, p1, p2, p3, p4⟩ := blk5 a0; obtain ⟨p5, p6, _, _⟩ := blk2 a1)
          | (go_at_call 12; (with_reducible refine (hfew _).mono ?_); clear hfew; rintro e w2 ⟨rfl, hb2⟩; have hB2 := below_call hB1 hB1.size hb2; have d0 := bl_own hb2 a0; have d1 := bl_own hb2 a1; obtain ⟨q0, q1, q2, q3, q4⟩ := blk5 d0; obtain ⟨q5, q6, _, _⟩ := blk2 d1))
        go_ret
        exact ⟨rfl, hB2⟩
      · clear hh hun hI1 hI2
        have gf : ¬ (pct < 0) := by omega
        have gg : ¬ (mo < 0) := by omega
        have gh : ¬ (100 < pct) := by omega
        obtain ⟨y, hy⟩ : ∃ y, wrap64 (pct + mo) = y := ⟨_, rfl⟩
        have hy0 : y < 0 := by rw [← hy]; unfold wrap64; omega
        have gi : ¬ (100 < y) := by omega
        have gj : y < pct := by omega
        go_enter Try.func6, Try.ntmps6
        go_wp2_with (first
          | (go_at_call 11; (with_reducible refine (haw _).mono ?_); clear haw; rintro e w1 ⟨rfl, hb1⟩; have hB1 := below_call hB hB.size hb1; have a0 := bl_own hb1 b0; have a1 := bl_own hb1 b1; obtain ⟨p0, p1, p2, p3, p4⟩ := blk5 a0; obtain ⟨p5, p6, _, _⟩ := blk2 a1)
          | (go_at_call 12; (with_reducible refine (hfew _).mono ?_); clear hfew; rintro e w2 ⟨rfl, hb2⟩; have hB2 := below_call hB1 hB1.size hb2; have d0 := bl_own hb2 a0; have d1 := bl_own hb2 a1; obtain ⟨q0, q1, q2, q3, q4⟩ := blk5 d0; obtain ⟨q5, q6, _, _⟩ := blk2 d1))
        go_ret
        exact ⟨rfl, hB2⟩
  · rw [decide_eq_false hsm] at hfew
    clear hsm
    unfold cfgv idv at *
    have hW : ∃ W, (w.alloc (.cells #[.slice A c.W.length k, .int .u64 c.seed, .int .i64 c.epoch, .int .i64 c.num, .int .i64 c.den] 25)).alloc (.cells #[.int .u64 bo.hi, .int .u64 bo.lo] 29) = W := ⟨_, rfl⟩
    obtain ⟨W, hW⟩ := hW
    have hB : Below w.heap.size w W := by subst hW; exact ((Below.refl _ w).alloc (Nat.le_refl _) _).alloc (by simp <;> omega) _
    have b0 : W.heap[w.heap.size]? = some (.cells #[.slice A c.W.length k, .int .u64 c.seed, .int .i64 c.epoch, .int .i64 c.num, .int .i64 c.den] 25 (0, 0)) := by subst hW; exact ha_lt (ha_at rfl)
    have b1 : W.heap[w.heap.size + 1]? = some (.cells #[.int .u64 bo.hi, .int .u64 bo.lo] 29 (0, 0)) := by subst hW; exact ha_at (by simp)
    go_enter Try.func6, Try.ntmps6
    go_wp2_with (first
      | (go_at_call 11; (with_reducible refine (haw _).mono ?_); clear haw; rintro e w1 ⟨rfl, hb1⟩; have hB1 := below_call hB hB.size hb1; have a0 := bl_own hb1 b0; have a1 := bl_own hb1 b1; obtain ⟨p0, p1, p2, p3, p4⟩ := blk5 a0; obtain ⟨p5, p6, _, _⟩ := blk2 a1)
      | (go_at_call 12; (with_reducible refine (hfew _).mono ?_); clear hfew; rintro e w2 ⟨rfl, hb2⟩; have hB2 := below_call hB1 hB1.size hb2; have d0 := bl_own hb2 a0; have d1 := bl_own hb2 a1; obtain ⟨q0, q1, q2, q3, q4⟩ := blk5 d0; obtain ⟨q5, q6, _, _⟩ := blk2 d1))
    go_ret
    exact ⟨rfl, hB2⟩
theorem up13_walk (A : Option Addr) (c : Cfg) (k : Nat) (A2 : Option Addr) (l : List Blk) (k2 : Nat) (A3 : Option Addr) (vs : List Vote) (k3 : Nat) (u : Int) (bo : ID) (pct mo : Int) (w : World) (_ : c.W.length ≤ k) (_ : k ≤ maxLen) (hr : Rd 1 encI w A c.W) (_ : c.Ok) (_ : l.length ≤ k2) (_ : k2 ≤ maxLen) (hr2 : Rd 5 encBlk w A2 l) (hok : ∀ b ∈ l, b.Ok) (_ : vs.length ≤ k3) (_ : k3 ≤ maxLen) (hr3 : Rd 4 encVote w A3 vs) (_ : ∀ b ∈ vs, b.Ok) (_ : I64 u) (_ : bo.Ok) (_ : I64 pct) (hmI : I64 mo) :
    Calls Try.prog 6 #[cfgv A k c, .slice A2 l.length k2, .slice A3 vs.length k3, .int .i64 u, idv bo, .int .i64 pct, .int .i64 mo] w fun e w' => e = .returned (.bool true) ∧ Below w.heap.size w w' :=
  up13_any c l vs u bo pct mo A A2 A3 k k2 k3 w hok hmI hr hr2 hr3
end Go.Proofs.Ytibmfpcbjopojaa
