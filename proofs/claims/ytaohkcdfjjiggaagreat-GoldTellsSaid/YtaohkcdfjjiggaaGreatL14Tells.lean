/- GoldTells, walked. -/
import Derived.Test.YtaohkcdfjjiggaaGreatGJ
import Derived.Test.YtaohkcdfjjiggaaGreatGP
import Derived.Test.YtaohkcdfjjiggaaGreatAw14
import Derived.Test.YtaohkcdfjjiggaaGreatGH
namespace Go.Proofs.YtaohkcdfjjiggaaGreat
open Go.RowKit
set_option linter.unusedVariables false
set_option maxRecDepth 100000 in
set_option maxHeartbeats 8000000 in
theorem tells14_any (c : Cfg) (l : List Blk) (vs : List Vote) (s : Int) (A A2 A3 : Option Addr) (k k2 k3 : Nat) (w : World) (hok : ∀ b ∈ l, b.Ok) (hr : Rd 1 encI w A c.W) (hr2 : Rd 5 encBlk w A2 l) (hr3 : Rd 4 encVote w A3 vs) :
    Calls Tryz.prog 3 #[cfgv A k c, .agg #[.slice A2 l.length k2, .slice A3 vs.length k3], .int .i64 s] w fun e w' => e = .returned (.bool true) ∧ Below w.heap.size w w' := by
  have hm := hr.1
  have hm2 := hr2.1
  have hm3 := hr3.1
  have haw := fun V => awake14_any V
  have hfew := fun V => fewN_any c l.length vs.length A A2 A3 k k2 k3 V hm hm2 hm3
  by_cases hsm : c.W.length ≤ 40 ∧ l.length ≤ 20 ∧ vs.length ≤ 30
  · rw [decide_eq_true hsm] at hfew
    obtain ⟨hsm1, hsm2, hsm3⟩ := hsm
    have hof := fun V (hV : Below w.heap.size w V) => gof_any c vs s A A3 k k3 V (hr.below hV) (hr3.below hV) (by omega)
    have hrof := fun V (hV : Below w.heap.size w V) => rgof_any c vs s A A3 k k3 V (hr.below hV) (hr3.below hV) (by omega)
    have hh := fun V (hV : Below w.heap.size w V) => gohead_any c l vs s A A2 A3 k k2 k3 V (hr.below hV) (hr2.below hV) (hr3.below hV) (by omega) (by omega)
    have hrh := fun V (hV : Below w.heap.size w V) => rgohead_any c l vs s A A2 A3 k k2 k3 V hok (hr.below hV) (hr2.below hV) (hr3.below hV) (by omega) (by omega)
    obtain ⟨o, ho⟩ : ∃ o, goldOf c vs s = o := ⟨_, rfl⟩
    obtain ⟨h, hhe⟩ : ∃ h, goldHead c l vs s = h := ⟨_, rfl⟩
    simp only [ho] at hof hrof
    rw [hhe] at hh hrh
    clear ho hhe
    have hso := fun V (B C : Option Addr) (kb kc : Nat) (h1 : Rd 4 encVote V B o) (h2 : Rd 4 encVote V C o) => same_any o o B C kb kc V h1 h2
    simp only [decide_true] at hso
    have hso' := Lib.hid hso
    clear hso
    have heq := eql_idw h h
    rw [decide_eq_true (rfl : h = h)] at heq
    unfold cfgv at *
    try unfold idv at *
    have hW : ∃ W, (w.alloc (.cells #[.slice A c.W.length k, .int .u64 c.seed, .int .i64 c.epoch, .int .i64 c.num, .int .i64 c.den] 25)).alloc (.cells #[.slice A2 l.length k2, .slice A3 vs.length k3] 29) = W := ⟨_, rfl⟩
    obtain ⟨W, hW⟩ := hW
    have hB : Below w.heap.size w W := by subst hW; exact ((Below.refl _ w).alloc (Nat.le_refl _) _).alloc (by simp <;> omega) _
    have b0 : W.heap[w.heap.size]? = some (.cells #[.slice A c.W.length k, .int .u64 c.seed, .int .i64 c.epoch, .int .i64 c.num, .int .i64 c.den] 25 (0, 0)) := by subst hW; exact ha_lt (ha_at rfl)
    have b1 : W.heap[w.heap.size + 1]? = some (.cells #[.slice A2 l.length k2, .slice A3 vs.length k3] 29 (0, 0)) := by subst hW; exact ha_at (by simp)
    go_enter Tryz.func3, Tryz.ntmps3
    go_wp2_with (first
      | (go_at_call 16; (with_reducible refine (haw _).mono ?_); clear haw; rintro e w1 ⟨rfl, hb1⟩; have hB1 := below_call hB hB.size hb1; have a0 := bl_own hb1 b0; have a1 := bl_own hb1 b1; obtain ⟨p0, p1, p2, p3, p4⟩ := blk5 a0; obtain ⟨p5, p6, _, _⟩ := blk2 a1)
      | (go_at_call 17; (with_reducible refine (hfew _).mono ?_); clear hfew; rintro e w2 ⟨rfl, hb2⟩; have hB2 := below_call hB1 hB1.size hb2; have d0 := bl_own hb2 a0; have d1 := bl_own hb2 a1; obtain ⟨q0, q1, q2, q3, q4⟩ := blk5 d0; obtain ⟨q5, q6, _, _⟩ := blk2 d1))
    clear p0 p1 p2 p3 p4 p5 p6 a0 a1 b0 b1 hb1 hb2 hW
    go_region_held3 (fun W' => W'.cell? ⟨w.heap.size, 0, none⟩ = some (.slice A c.W.length k) ∧ W'.cell? ⟨w.heap.size, 1, none⟩ = some (.int .u64 c.seed) ∧ W'.cell? ⟨w.heap.size, 2, none⟩ = some (.int .i64 c.epoch) ∧ W'.cell? ⟨w.heap.size, 3, none⟩ = some (.int .i64 c.num) ∧ W'.cell? ⟨w.heap.size, 4, none⟩ = some (.int .i64 c.den) ∧ W'.cell? ⟨w.heap.size + 1, 0, none⟩ = some (.slice A2 l.length k2) ∧ W'.cell? ⟨w.heap.size + 1, 1, none⟩ = some (.slice A3 vs.length k3))
      (first | exact ⟨q0, q1, q2, q3, q4, q5, q6⟩ | exact ⟨r0, r1, r2, r3, r4, r5, r6⟩ | exact ⟨s0, s1, s2, s3, s4, s5, s6⟩ | exact ⟨t0, t1, t2, t3, t4, t5, t6⟩) ((first
      | (go_at_call 19; (with_reducible refine (hof _ hB2.drew).mono ?_); clear hof; rintro e w3 ⟨A4, k4, rfl, hR4, hb3⟩; have hB3 := below_call hB2.drew hB2.size hb3; have f0 := bl_own hb3 d0; have f1 := bl_own hb3 d1; obtain ⟨r0, r1, r2, r3, r4⟩ := blk5 f0; obtain ⟨r5, r6, _, _⟩ := blk2 f1)
      | (go_at_call 20; (with_reducible refine (hrof _ hB3).mono ?_); clear hrof; rintro e w4 ⟨v, rfl, ho, hb4⟩; have hB4 := below_call hB3 hB3.size hb4; obtain ⟨A5, k5, hv, hR5⟩ := ho.rd encVote_len; subst hv; have hR44 := hR4.below hb4; have g0 := bl_own hb4 f0; have g1 := bl_own hb4 f1; obtain ⟨s0, s1, s2, s3, s4⟩ := blk5 g0; obtain ⟨s5, s6, _, _⟩ := blk2 g1)
      | (go_at_call 18; (with_reducible refine (hso'.out _ _ _ _ _ hR44 hR5).mono ?_); clear hso'; rintro e w5 ⟨rfl, hb5⟩; have hB5 := below_call hB4 hB4.size hb5; have i0 := bl_own hb5 g0; have i1 := bl_own hb5 g1; obtain ⟨t0, t1, t2, t3, t4⟩ := blk5 i0; obtain ⟨t5, t6, _, _⟩ := blk2 i1)))
    clear q0 q1 q2 q3 q4 q5 q6 r0 r1 r2 r3 r4 r5 r6 s0 s1 s2 s3 s4 s5 s6 hb3 hb4 hb5 d0 d1 f0 f1 g0 g1 hR4 hR44 hR5 ho
    go_wp2_with fail
    have yt0 := gr_cell t0
    have yt1 := gr_cell t1
    have yt2 := gr_cell t2
    have yt3 := gr_cell t3
    have yt4 := gr_cell t4
    have yt5 := gr_cell t5
    have yt6 := gr_cell t6
    have hV : ∀ p, Below w.heap.size w (gr w5 p) := fun p => hB5.trans ((gr_below _ _).mono hB5.size)
    refine wp_region_gr (by kernel_rfl) (by kernel_rfl) ?_
    repeat (go_big_quiet_step ((first
      | (go_at_call 21; with_reducible exact Calls.gr_of (hh _ (hV _)))
      | (go_at_call 22; with_reducible exact Calls.gr_of (hrh _ (hV _))))))
    refine wpQuiet_nil ?_
    rintro _ ⟨pq, rfl⟩
    go_wp2
    go_ret
    exact ⟨rfl, hV _⟩
  · rw [decide_eq_false hsm] at hfew
    clear hsm
    unfold cfgv at *
    try unfold idv at *
    have hW : ∃ W, (w.alloc (.cells #[.slice A c.W.length k, .int .u64 c.seed, .int .i64 c.epoch, .int .i64 c.num, .int .i64 c.den] 25)).alloc (.cells #[.slice A2 l.length k2, .slice A3 vs.length k3] 29) = W := ⟨_, rfl⟩
    obtain ⟨W, hW⟩ := hW
    have hB : Below w.heap.size w W := by subst hW; exact ((Below.refl _ w).alloc (Nat.le_refl _) _).alloc (by simp <;> omega) _
    have b0 : W.heap[w.heap.size]? = some (.cells #[.slice A c.W.length k, .int .u64 c.seed, .int .i64 c.epoch, .int .i64 c.num, .int .i64 c.den] 25 (0, 0)) := by subst hW; exact ha_lt (ha_at rfl)
    have b1 : W.heap[w.heap.size + 1]? = some (.cells #[.slice A2 l.length k2, .slice A3 vs.length k3] 29 (0, 0)) := by subst hW; exact ha_at (by simp)
    go_enter Tryz.func3, Tryz.ntmps3
    go_wp2_with (first
      | (go_at_call 16; (with_reducible refine (haw _).mono ?_); clear haw; rintro e w1 ⟨rfl, hb1⟩; have hB1 := below_call hB hB.size hb1; have a0 := bl_own hb1 b0; have a1 := bl_own hb1 b1; obtain ⟨p0, p1, p2, p3, p4⟩ := blk5 a0; obtain ⟨p5, p6, _, _⟩ := blk2 a1)
      | (go_at_call 17; (with_reducible refine (hfew _).mono ?_); clear hfew; rintro e w2 ⟨rfl, hb2⟩; have hB2 := below_call hB1 hB1.size hb2; have d0 := bl_own hb2 a0; have d1 := bl_own hb2 a1; obtain ⟨q0, q1, q2, q3, q4⟩ := blk5 d0; obtain ⟨q5, q6, _, _⟩ := blk2 d1))
    go_ret
    exact ⟨rfl, hB2⟩
theorem tells14_walk (A : Option Addr) (c : Cfg) (k : Nat) (A2 : Option Addr) (l : List Blk) (k2 : Nat) (A3 : Option Addr) (vs : List Vote) (k3 : Nat) (s : Int) (w : World) (_ : c.W.length ≤ k) (_ : k ≤ maxLen) (hr : Rd 1 encI w A c.W) (_ : c.Ok) (_ : l.length ≤ k2) (_ : k2 ≤ maxLen) (hr2 : Rd 5 encBlk w A2 l) (hok : ∀ b ∈ l, b.Ok) (_ : A2 = none → k2 = 0) (hlk : vs.length ≤ k3) (hkm : k3 ≤ maxLen) (hr3 : Rd 4 encVote w A3 vs) (_ : ∀ b ∈ vs, b.Ok) (hN : A3 = none → k3 = 0) (_ : I64 s) :
    Calls Tryz.prog 3 #[cfgv A k c, .agg #[.slice A2 l.length k2, .slice A3 vs.length k3], .int .i64 s] w fun e w' => e = .returned (.bool true) ∧ Below w.heap.size w w' :=
  tells14_any c l vs s A A2 A3 k k2 k3 w hok hr hr2 hr3
end Go.Proofs.YtaohkcdfjjiggaaGreat
