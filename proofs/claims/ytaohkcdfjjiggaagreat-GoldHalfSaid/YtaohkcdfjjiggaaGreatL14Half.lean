/- GoldHalf, walked. -/
import Derived.Test.YtaohkcdfjjiggaaGreatGJ
import Derived.Test.YtaohkcdfjjiggaaGreatGP
import Derived.Test.YtaohkcdfjjiggaaGreatAw14
import Derived.Test.YtaohkcdfjjiggaaGreatGH
namespace Go.Proofs.YtaohkcdfjjiggaaGreat
open Go.RowKit
set_option linter.unusedVariables false
set_option maxRecDepth 100000 in
set_option maxHeartbeats 8000000 in
theorem half14_any (c : Cfg) (l : List Blk) (vs : List Vote) (s : Int) (x : ID) (A A2 A3 : Option Addr) (k k2 k3 : Nat) (w : World) (hok : ∀ b ∈ l, b.Ok) (hr : Rd 1 encI w A c.W) (hr2 : Rd 5 encBlk w A2 l) (hr3 : Rd 4 encVote w A3 vs) :
    Calls Tryz.prog 7 #[cfgv A k c, .agg #[.slice A2 l.length k2, .slice A3 vs.length k3], .int .i64 s, idv x] w fun e w' => e = .returned (.bool true) ∧ Below w.heap.size w w' := by
  have hm := hr.1
  have hm2 := hr2.1
  have hm3 := hr3.1
  have haw := fun V => awake14_any V
  have hfew := fun V => fewN_any c l.length vs.length A A2 A3 k k2 k3 V hm hm2 hm3
  by_cases hsm : c.W.length ≤ 40 ∧ l.length ≤ 20 ∧ vs.length ≤ 30
  · rw [decide_eq_true hsm] at hfew
    obtain ⟨hsm1, hsm2, hsm3⟩ := hsm
    have hof := fun V (hV : Below w.heap.size w V) => gof_any c vs s A A3 k k3 V (hr.below hV) (hr3.below hV) (by omega)
    have hol := gold_len2 (c := c) (v := vs) (s := s) (by omega)
    have hon := fun V (hV : Below w.heap.size w V) A4 k4 h4 => on_any c l (goldOf c vs s) x A A2 A4 k k2 k4 V (hr.below hV) (hr2.below hV) h4 (by omega) hol
    have hall := fun V (hV : Below w.heap.size w V) A4 k4 h4 => all_any c l (goldOf c vs s) A A2 A4 k k2 k4 V (hr.below hV) (hr2.below hV) h4 (by omega) hol
    have hh := fun V (hV : Below w.heap.size w V) => gohead_any c l vs s A A2 A3 k k2 k3 V (hr.below hV) (hr2.below hV) (hr3.below hV) (by omega) (by omega)
    have hun := fun V (hV : Below w.heap.size w V) => under_any l x (goldHead c l vs s) A2 k2 V (hr2.below hV) (by omega)
    have hlaw := fun h => decide_eq_true (gold_half c (l := l) (v := vs) (s := s) (y := x) h)
    have hob : 0 ≤ onC c l (goldOf c vs s) x ∧ onC c l (goldOf c vs s) x ≤ 13194139533312 := weightC_bd c _
    have hab : 0 ≤ onC c l (goldOf c vs s) zid ∧ onC c l (goldOf c vs s) zid ≤ 13194139533312 := weightC_bd c _
    obtain ⟨n, hn⟩ : ∃ n, onC c l (goldOf c vs s) x = n := ⟨_, rfl⟩
    obtain ⟨al, hal⟩ : ∃ al, onC c l (goldOf c vs s) zid = al := ⟨_, rfl⟩
    obtain ⟨h, hhe⟩ : ∃ h, goldHead c l vs s = h := ⟨_, rfl⟩
    rw [hhe] at hh hun hlaw
    obtain ⟨ux, hux⟩ : ∃ ux, decide (x ∈ chain l h) = ux := ⟨_, rfl⟩
    rw [hux] at hun hlaw
    simp only [hn] at hon hlaw hob
    simp only [hal] at hall hlaw hab
    obtain ⟨m, hme⟩ : ∃ m, goldOf c vs s = m := ⟨_, rfl⟩
    simp only [hme] at hof hon hall
    clear hn hhe hol hal hme hux
    have hlaw' := Lib.hid hlaw
    clear hlaw
    unfold cfgv at *
    try unfold idv at *
    have hW : ∃ W, ((w.alloc (.cells #[.slice A c.W.length k, .int .u64 c.seed, .int .i64 c.epoch, .int .i64 c.num, .int .i64 c.den] 25)).alloc (.cells #[.slice A2 l.length k2, .slice A3 vs.length k3] 29)).alloc (.cells #[.int .u64 x.hi, .int .u64 x.lo] 35) = W := ⟨_, rfl⟩
    obtain ⟨W, hW⟩ := hW
    have hB : Below w.heap.size w W := by subst hW; exact (((Below.refl _ w).alloc (Nat.le_refl _) _).alloc (by simp <;> omega) _).alloc (by simp <;> omega) _
    have b0 : W.heap[w.heap.size]? = some (.cells #[.slice A c.W.length k, .int .u64 c.seed, .int .i64 c.epoch, .int .i64 c.num, .int .i64 c.den] 25 (0, 0)) := by subst hW; exact ha_lt (ha_lt (ha_at rfl))
    have b1 : W.heap[w.heap.size + 1]? = some (.cells #[.slice A2 l.length k2, .slice A3 vs.length k3] 29 (0, 0)) := by subst hW; exact ha_lt (ha_at (by simp))
    have b2 : W.heap[w.heap.size + 1 + 1]? = some (.cells #[.int .u64 x.hi, .int .u64 x.lo] 35 (0, 0)) := by subst hW; exact ha_at (by simp)
    go_enter Tryz.func7, Tryz.ntmps7
    go_wp2_with (first
      | (go_at_call 16; (with_reducible refine (haw _).mono ?_); clear haw; rintro e w1 ⟨rfl, hb1⟩; have hB1 := below_call hB hB.size hb1; have a0 := bl_own hb1 b0; have a1 := bl_own hb1 b1; have a2 := bl_own hb1 b2; obtain ⟨p0, p1, p2, p3, p4⟩ := blk5 a0; obtain ⟨p5, p6, _, _⟩ := blk2 a1; obtain ⟨p7, p8, _, _⟩ := blk2 a2)
      | (go_at_call 17; (with_reducible refine (hfew _).mono ?_); clear hfew; rintro e w2 ⟨rfl, hb2⟩; have hB2 := below_call hB1 hB1.size hb2; have d0 := bl_own hb2 a0; have d1 := bl_own hb2 a1; have d2 := bl_own hb2 a2; obtain ⟨q0, q1, q2, q3, q4⟩ := blk5 d0; obtain ⟨q5, q6, _, _⟩ := blk2 d1; obtain ⟨q7, q8, _, _⟩ := blk2 d2)
      | (go_at_call 19; (with_reducible refine (hof _ hB2).mono ?_); clear hof; rintro e w3 ⟨A4, k4, rfl, hR4, hb3⟩; have hB3 := below_call hB2 hB2.size hb3; have f0 := bl_own hb3 d0; have f1 := bl_own hb3 d1; have f2 := bl_own hb3 d2; obtain ⟨r0, r1, r2, r3, r4⟩ := blk5 f0; obtain ⟨r5, r6, _, _⟩ := blk2 f1; obtain ⟨r7, r8, _, _⟩ := blk2 f2))
    clear p0 q0 p1 q1 p2 q2 p3 q3 p4 q4 p5 q5 p6 q6 p7 q7 p8 q8 a0 d0 b0 a1 d1 b1 a2 d2 b2
    have hall1 := fun p => hall (gr w3 p) (hB3.trans ((gr_below _ _).mono hB3.size)) A4 k4 (hR4.below (gr_below _ _))
    have hon1 := fun p => hon (gr w3 p) (hB3.trans ((gr_below _ _).mono hB3.size)) A4 k4 (hR4.below (gr_below _ _))
    clear hall hon
    have yr0 := gr_cell r0
    have yr1 := gr_cell r1
    have yr2 := gr_cell r2
    have yr3 := gr_cell r3
    have yr4 := gr_cell r4
    have yr5 := gr_cell r5
    have yr6 := gr_cell r6
    have yr7 := gr_cell r7
    have yr8 := gr_cell r8
    have hV : ∀ p, Below w.heap.size w (gr w3 p) := fun p => hB3.trans ((gr_below _ _).mono hB3.size)
    refine wp_region_gr (by kernel_rfl) (by kernel_rfl) ?_
    repeat (go_big_quiet_step ((first
      | (go_at_call 30; with_reducible exact Calls.gr_of (hon1 _))
      | (go_at_call 32; with_reducible exact Calls.gr_of (hall1 _)))))
    refine wpQuiet_nil ?_
    rintro _ ⟨pq, rfl⟩
    have hB5 := hV pq
    have hb5 := gr_below w3 pq
    generalize gr w3 pq = w5 at hB5 hb5 ⊢
    clear yr0 r0 yr1 r1 yr2 r2 yr3 r3 yr4 r4 yr5 r5 yr6 r6 yr7 r7 yr8 r8 hV hall1 hon1
    have g0 := bl_own hb5 f0; have g1 := bl_own hb5 f1; have g2 := bl_own hb5 f2
    obtain ⟨s0, s1, s2, s3, s4⟩ := blk5 g0
    obtain ⟨s5, s6, _, _⟩ := blk2 g1
    obtain ⟨s7, s8, _, _⟩ := blk2 g2
    by_cases hc : 2 * n ≤ al
    · go_wp2_with fail
      go_ret
      exact ⟨rfl, hB5⟩
    · have hux := hlaw'.out (by omega)
      subst hux
      go_wp2_with fail
      have ys0 := gr_cell s0
      have ys1 := gr_cell s1
      have ys2 := gr_cell s2
      have ys3 := gr_cell s3
      have ys4 := gr_cell s4
      have ys5 := gr_cell s5
      have ys6 := gr_cell s6
      have ys7 := gr_cell s7
      have ys8 := gr_cell s8
      have hV : ∀ p, Below w.heap.size w (gr w5 p) := fun p => hB5.trans ((gr_below _ _).mono hB5.size)
      refine wp_region_gr (by kernel_rfl) (by kernel_rfl) ?_
      repeat (go_big_quiet_step ((first
        | (go_at_call 21; with_reducible exact Calls.gr_of (hh _ (hV _)))
        | (go_at_call 29; with_reducible exact Calls.gr_of (hun _ (hV _))))))
      refine wpQuiet_nil ?_
      rintro _ ⟨pq, rfl⟩
      go_wp2
      go_ret
      exact ⟨rfl, hV _⟩
  · rw [decide_eq_false hsm] at hfew
    clear hsm
    unfold cfgv at *
    try unfold idv at *
    have hW : ∃ W, ((w.alloc (.cells #[.slice A c.W.length k, .int .u64 c.seed, .int .i64 c.epoch, .int .i64 c.num, .int .i64 c.den] 25)).alloc (.cells #[.slice A2 l.length k2, .slice A3 vs.length k3] 29)).alloc (.cells #[.int .u64 x.hi, .int .u64 x.lo] 35) = W := ⟨_, rfl⟩
    obtain ⟨W, hW⟩ := hW
    have hB : Below w.heap.size w W := by subst hW; exact (((Below.refl _ w).alloc (Nat.le_refl _) _).alloc (by simp <;> omega) _).alloc (by simp <;> omega) _
    have b0 : W.heap[w.heap.size]? = some (.cells #[.slice A c.W.length k, .int .u64 c.seed, .int .i64 c.epoch, .int .i64 c.num, .int .i64 c.den] 25 (0, 0)) := by subst hW; exact ha_lt (ha_lt (ha_at rfl))
    have b1 : W.heap[w.heap.size + 1]? = some (.cells #[.slice A2 l.length k2, .slice A3 vs.length k3] 29 (0, 0)) := by subst hW; exact ha_lt (ha_at (by simp))
    have b2 : W.heap[w.heap.size + 1 + 1]? = some (.cells #[.int .u64 x.hi, .int .u64 x.lo] 35 (0, 0)) := by subst hW; exact ha_at (by simp)
    go_enter Tryz.func7, Tryz.ntmps7
    go_wp2_with (first
      | (go_at_call 16; (with_reducible refine (haw _).mono ?_); clear haw; rintro e w1 ⟨rfl, hb1⟩; have hB1 := below_call hB hB.size hb1; have a0 := bl_own hb1 b0; have a1 := bl_own hb1 b1; have a2 := bl_own hb1 b2; obtain ⟨p0, p1, p2, p3, p4⟩ := blk5 a0; obtain ⟨p5, p6, _, _⟩ := blk2 a1; obtain ⟨p7, p8, _, _⟩ := blk2 a2)
      | (go_at_call 17; (with_reducible refine (hfew _).mono ?_); clear hfew; rintro e w2 ⟨rfl, hb2⟩; have hB2 := below_call hB1 hB1.size hb2; have d0 := bl_own hb2 a0; have d1 := bl_own hb2 a1; have d2 := bl_own hb2 a2; obtain ⟨q0, q1, q2, q3, q4⟩ := blk5 d0; obtain ⟨q5, q6, _, _⟩ := blk2 d1; obtain ⟨q7, q8, _, _⟩ := blk2 d2))
    go_ret
    exact ⟨rfl, hB2⟩
theorem half14_walk (A : Option Addr) (c : Cfg) (k : Nat) (A2 : Option Addr) (l : List Blk) (k2 : Nat) (A3 : Option Addr) (vs : List Vote) (k3 : Nat) (s : Int) (x : ID) (w : World) (_ : c.W.length ≤ k) (_ : k ≤ maxLen) (hr : Rd 1 encI w A c.W) (_ : c.Ok) (_ : l.length ≤ k2) (_ : k2 ≤ maxLen) (hr2 : Rd 5 encBlk w A2 l) (hok : ∀ b ∈ l, b.Ok) (_ : A2 = none → k2 = 0) (hlk : vs.length ≤ k3) (hkm : k3 ≤ maxLen) (hr3 : Rd 4 encVote w A3 vs) (_ : ∀ b ∈ vs, b.Ok) (hN : A3 = none → k3 = 0) (_ : I64 s) (_ : x.Ok) :
    Calls Tryz.prog 7 #[cfgv A k c, .agg #[.slice A2 l.length k2, .slice A3 vs.length k3], .int .i64 s, idv x] w fun e w' => e = .returned (.bool true) ∧ Below w.heap.size w w' :=
  half14_any c l vs s x A A2 A3 k k2 k3 w hok hr hr2 hr3
end Go.Proofs.YtaohkcdfjjiggaaGreat
