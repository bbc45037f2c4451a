/- QuickNone, walked. -/
import Derived.Test.YtaohkcdfjjiggaaGreatGJ
import Derived.Test.YtaohkcdfjjiggaaGreatGS
import Derived.Test.YtaohkcdfjjiggaaGreatGQ
import Derived.Deep.RegionWith
namespace Go.Proofs.YtaohkcdfjjiggaaGreat
open Go.RowKit
set_option linter.unusedVariables false
set_option maxRecDepth 100000 in
set_option maxHeartbeats 8000000 in
theorem none15_any (c : Cfg) (l : List Blk) (vs : List Vote) (s : Int) (x : ID) (A A2 A3 : Option Addr) (k k2 k3 : Nat) (w : World) (hok : ∀ b ∈ l, b.Ok) (hr : Rd 1 encI w A c.W) (hr2 : Rd 5 encBlk w A2 l) (hr3 : Rd 4 encVote w A3 vs) :
    Calls Tryz.prog 13 #[cfgv A k c, .agg #[.slice A2 l.length k2, .slice A3 vs.length k3], .int .i64 s, idv x] w fun e w' => e = .returned (.bool true) ∧ Below w.heap.size w w' := by
  have hm := hr.1
  have hm2 := hr2.1
  have hm3 := hr3.1
  have haw := fun V => awake15_any V
  have hfew := fun V => fewN_any c l.length vs.length A A2 A3 k k2 k3 V hm hm2 hm3
  by_cases hsm : c.W.length ≤ 40 ∧ l.length ≤ 20 ∧ vs.length ≤ 30
  · rw [decide_eq_true hsm] at hfew
    obtain ⟨hsm1, hsm2, hsm3⟩ := hsm
    have hmay := fun V (hV : Below w.heap.size w V) => dmay_any c A k V (hr.below hV)
    by_cases hmc : MayC c
    · have hto := fun V (hV : Below w.heap.size w V) => qtop_any c l [] s x A A2 none k k2 0 V (hr.below hV) (hr2.below hV) (Rd_nil _ _ _ _) (by omega) (by simp) hmc.few
      have hs0 := fun V (hV : Below w.heap.size w V) => qsure_any c l [] s x A A2 none k k2 0 V (hr.below hV) (hr2.below hV) (Rd_nil _ _ _ _) (by omega) (by simp) hmc.few
      have hsx := fun V (hV : Below w.heap.size w V) => qsure_any c l vs s x A A2 A3 k k2 k3 V (hr.below hV) (hr2.below hV) (hr3.below hV) (by omega) (by omega) hmc.few
      have hcm := fun V (hV : Below w.heap.size w V) => committee_any c s A k V (hr.below hV)
      have hwt := Lib.hid (fun V (hV : Below w.heap.size w V) A4 k4 h4 => dweight_any c (comC c s) A A4 k k4 V (hr.below hV) h4)
      have hqt : quickTop c l [] s x = (false, zid) := topOf_none (sure_novotes hmc l s) _
      rw [hqt] at hto
      rw [sure_novotes hmc l s x] at hs0
      have l1 := fun h => sure_nothing hmc (l := l) (v := vs) (s := s) (y := x) h
      have hr0 : weightC c (comC c s) = quickAll c s := rfl
      rw [hr0] at hwt
      obtain ⟨sx, hsxe⟩ : ∃ sx, quickSure c l vs s x = sx := ⟨_, rfl⟩
      obtain ⟨al, hale⟩ : ∃ al, quickAll c s = al := ⟨_, rfl⟩
      rw [hsxe] at hsx l1
      rw [hale] at hwt l1
      generalize comC c s = cm at hcm hwt hr0
      rw [decide_eq_true hmc] at hmay
      simp only [List.length_nil] at hto hs0
      have heq := neq_idw ⟨0, 0⟩ ⟨0, 0⟩
      rw [decide_eq_true (rfl : (⟨0, 0⟩ : ID) = ⟨0, 0⟩)] at heq
      dsimp only at heq
      clear hsxe hale hqt hr0 hmc
      unfold cfgv at *
      unfold idv at *
      unfold zid at *
      dsimp only at hto
      have hwt := Lib.hid hwt.out
      have hW : ∃ W, ((w.alloc (.cells #[.slice A c.W.length k, .int .u64 c.seed, .int .i64 c.epoch, .int .i64 c.num, .int .i64 c.den] 25)).alloc (.cells #[.slice A2 l.length k2, .slice A3 vs.length k3] 29)).alloc (.cells #[.int .u64 x.hi, .int .u64 x.lo] 35) = W := ⟨_, rfl⟩
      obtain ⟨W, hW⟩ := hW
      have hB : Below w.heap.size w W := by subst hW; exact (((Below.refl _ w).alloc (Nat.le_refl _) _).alloc (by simp <;> omega) _).alloc (by simp <;> omega) _
      have b0 : W.heap[w.heap.size]? = some (.cells #[.slice A c.W.length k, .int .u64 c.seed, .int .i64 c.epoch, .int .i64 c.num, .int .i64 c.den] 25 (0, 0)) := by subst hW; exact ha_lt (ha_lt (ha_at rfl))
      have b1 : W.heap[w.heap.size + 1]? = some (.cells #[.slice A2 l.length k2, .slice A3 vs.length k3] 29 (0, 0)) := by subst hW; exact ha_lt (ha_at (by simp))
      have b2 : W.heap[w.heap.size + 1 + 1]? = some (.cells #[.int .u64 x.hi, .int .u64 x.lo] 35 (0, 0)) := by subst hW; exact ha_at (by simp)
      by_cases hal : 0 < al
      · have e1 : decide (0 < al) = true := decide_eq_true hal
        have e2 : decide (al > 0) = true := decide_eq_true hal
        clear l1 hal
        go_enter Tryz.func13, Tryz.ntmps13
        go_wp2_with (first
          | (go_at_call 34; (with_reducible refine (haw _).mono ?_); clear haw; rintro e w1 ⟨rfl, hb1⟩; have hB1 := below_call hB hB.size hb1; have a0 := bl_own hb1 b0; have a1 := bl_own hb1 b1; have a2 := bl_own hb1 b2; obtain ⟨p0, p1, p2, p3, p4⟩ := blk5 a0; obtain ⟨p5, p6, _, _⟩ := blk2 a1; obtain ⟨p7, p8, _, _⟩ := blk2 a2)
          | (go_at_call 17; (with_reducible refine (hfew _).mono ?_); clear hfew; rintro e w2 ⟨rfl, hb2⟩; have hB2 := below_call hB1 hB1.size hb2; have d0 := bl_own hb2 a0; have d1 := bl_own hb2 a1; have d2 := bl_own hb2 a2; obtain ⟨q0, q1, q2, q3, q4⟩ := blk5 d0; obtain ⟨q5, q6, _, _⟩ := blk2 d1; obtain ⟨q7, q8, _, _⟩ := blk2 d2)
          | (go_at_call 23; (with_reducible refine (hmay _ hB2).mono ?_); clear hmay; rintro e w3 ⟨rfl, hb3⟩; have hB3 := below_call hB2 hB2.size hb3; have f0 := bl_own hb3 d0; have f1 := bl_own hb3 d1; have f2 := bl_own hb3 d2; obtain ⟨r0, r1, r2, r3, r4⟩ := blk5 f0; obtain ⟨r5, r6, _, _⟩ := blk2 f1; obtain ⟨r7, r8, _, _⟩ := blk2 f2)
          | (go_at_call 36; (with_reducible refine (hto _ hB3).mono ?_); clear hto; rintro e w4 ⟨rfl, hb4⟩; have hB4 := below_call hB3 hB3.size hb4; have hl5 : Below w4.heap.size w4 (w4.alloc (.cells #[.int .u64 0, .int .u64 0] 35)) := (Below.refl _ w4).alloc (Nat.le_refl _) _; have hB5 := below_call hB4 hB4.size hl5; have g0 := bl_own hl5 (bl_own hb4 f0); have g1 := bl_own hl5 (bl_own hb4 f1); have g2 := bl_own hl5 (bl_own hb4 f2); have gh := ha_at (w := w4) (o := .cells #[.int .u64 0, .int .u64 0] 35) (k := w4.heap.size) rfl; obtain ⟨s0, s1, s2, s3, s4⟩ := blk5 g0; obtain ⟨s5, s6, _, _⟩ := blk2 g1; obtain ⟨s7, s8, _, _⟩ := blk2 g2; obtain ⟨s9, s10, _, _⟩ := blk2 gh)
          | (go_at_call 40; (with_reducible refine (hs0 _ hB5).mono ?_); clear hs0; rintro e w6 ⟨rfl, hb6⟩; have hB6 := below_call hB5 hB5.size hb6; have i0 := bl_own hb6 g0; have i1 := bl_own hb6 g1; have i2 := bl_own hb6 g2; obtain ⟨t0, t1, t2, t3, t4⟩ := blk5 i0; obtain ⟨t5, t6, _, _⟩ := blk2 i1; obtain ⟨t7, t8, _, _⟩ := blk2 i2; obtain ⟨t9, t10, _, _⟩ := blk2 (bl_own hb6 gh)))
        clear p0 q0 r0 s0 p1 q1 r1 s1 p2 q2 r2 s2 p3 q3 r3 s3 p4 q4 r4 s4 p5 q5 r5 s5 p6 q6 r6 s6 p7 q7 r7 s7 p8 q8 r8 s8 s9 s10 a0 d0 f0 b0 g0 a1 d1 f1 b1 g1 a2 d2 f2 b2 g2 gh hl5 hb1 hb2 hb3 hb4 hb6 hB hB1 hB2 hB3 hB4
        first | (go_region_with (first
          | (go_at_call 28; (with_reducible refine (hcm _ hB6.drew).mono ?_); clear hcm; rintro e w7 ⟨u, rfl, ho7, hb7⟩; obtain ⟨A7, k7, hu, hR7⟩ := ho7.rd encI_len; subst hu; have hB7 := below_call hB6.drew hB6.size hb7; have hQ7 : Below w6.heap.size w6 w7 := below_call (Below.refl _ w6).drew (Nat.le_refl _) hb7; obtain ⟨u0, u1, u2, u3, u4⟩ := blk5 (bl_own hQ7 i0))
          | (go_at_call 31; (with_reducible refine (hwt.out _ hB7 _ k7 hR7).mono ?_); rintro e w8 ⟨rfl, hb8⟩; have hBf := below_call hB7 hB7.size hb8))) | fail
        all_goals (go_wp2_with fail; go_ret; exact ⟨rfl, hBf⟩)
      · have e1 : decide (0 < al) = false := decide_eq_false hal
        have e2 : decide (al > 0) = false := decide_eq_false hal
        obtain rfl := l1 hal
        clear l1 hal
        go_enter Tryz.func13, Tryz.ntmps13
        go_wp2_with (first
          | (go_at_call 34; (with_reducible refine (haw _).mono ?_); clear haw; rintro e w1 ⟨rfl, hb1⟩; have hB1 := below_call hB hB.size hb1; have a0 := bl_own hb1 b0; have a1 := bl_own hb1 b1; have a2 := bl_own hb1 b2; obtain ⟨p0, p1, p2, p3, p4⟩ := blk5 a0; obtain ⟨p5, p6, _, _⟩ := blk2 a1; obtain ⟨p7, p8, _, _⟩ := blk2 a2)
          | (go_at_call 17; (with_reducible refine (hfew _).mono ?_); clear hfew; rintro e w2 ⟨rfl, hb2⟩; have hB2 := below_call hB1 hB1.size hb2; have d0 := bl_own hb2 a0; have d1 := bl_own hb2 a1; have d2 := bl_own hb2 a2; obtain ⟨q0, q1, q2, q3, q4⟩ := blk5 d0; obtain ⟨q5, q6, _, _⟩ := blk2 d1; obtain ⟨q7, q8, _, _⟩ := blk2 d2)
          | (go_at_call 23; (with_reducible refine (hmay _ hB2).mono ?_); clear hmay; rintro e w3 ⟨rfl, hb3⟩; have hB3 := below_call hB2 hB2.size hb3; have f0 := bl_own hb3 d0; have f1 := bl_own hb3 d1; have f2 := bl_own hb3 d2; obtain ⟨r0, r1, r2, r3, r4⟩ := blk5 f0; obtain ⟨r5, r6, _, _⟩ := blk2 f1; obtain ⟨r7, r8, _, _⟩ := blk2 f2)
          | (go_at_call 36; (with_reducible refine (hto _ hB3).mono ?_); clear hto; rintro e w4 ⟨rfl, hb4⟩; have hB4 := below_call hB3 hB3.size hb4; have hl5 : Below w4.heap.size w4 (w4.alloc (.cells #[.int .u64 0, .int .u64 0] 35)) := (Below.refl _ w4).alloc (Nat.le_refl _) _; have hB5 := below_call hB4 hB4.size hl5; have g0 := bl_own hl5 (bl_own hb4 f0); have g1 := bl_own hl5 (bl_own hb4 f1); have g2 := bl_own hl5 (bl_own hb4 f2); have gh := ha_at (w := w4) (o := .cells #[.int .u64 0, .int .u64 0] 35) (k := w4.heap.size) rfl; obtain ⟨s0, s1, s2, s3, s4⟩ := blk5 g0; obtain ⟨s5, s6, _, _⟩ := blk2 g1; obtain ⟨s7, s8, _, _⟩ := blk2 g2; obtain ⟨s9, s10, _, _⟩ := blk2 gh)
          | (go_at_call 40; (with_reducible refine (hs0 _ hB5).mono ?_); clear hs0; rintro e w6 ⟨rfl, hb6⟩; have hB6 := below_call hB5 hB5.size hb6; have i0 := bl_own hb6 g0; have i1 := bl_own hb6 g1; have i2 := bl_own hb6 g2; obtain ⟨t0, t1, t2, t3, t4⟩ := blk5 i0; obtain ⟨t5, t6, _, _⟩ := blk2 i1; obtain ⟨t7, t8, _, _⟩ := blk2 i2; obtain ⟨t9, t10, _, _⟩ := blk2 (bl_own hb6 gh)))
        clear p0 q0 r0 s0 t0 p1 q1 r1 s1 t1 p2 q2 r2 s2 t2 p3 q3 r3 s3 t3 p4 q4 r4 s4 t4 p5 q5 r5 s5 t5 p6 q6 r6 s6 t6 p7 q7 r7 s7 t7 p8 q8 r8 s8 t8 s9 s10 t9 t10 a0 d0 f0 b0 g0 a1 d1 f1 b1 g1 a2 d2 f2 b2 g2 gh hl5 hb1 hb2 hb3 hb4 hb6 hB hB1 hB2 hB3 hB4 hB5 hW
        go_region_held3 (fun W' => W'.cell? ⟨w.heap.size, 0, none⟩ = some (.slice A c.W.length k) ∧ W'.cell? ⟨w.heap.size, 1, none⟩ = some (.int .u64 c.seed) ∧ W'.cell? ⟨w.heap.size, 2, none⟩ = some (.int .i64 c.epoch) ∧ W'.cell? ⟨w.heap.size, 3, none⟩ = some (.int .i64 c.num) ∧ W'.cell? ⟨w.heap.size, 4, none⟩ = some (.int .i64 c.den) ∧ W'.cell? ⟨w.heap.size + 1, 0, none⟩ = some (.slice A2 l.length k2) ∧ W'.cell? ⟨w.heap.size + 1, 1, none⟩ = some (.slice A3 vs.length k3) ∧ W'.cell? ⟨w.heap.size + 1 + 1, 0, none⟩ = some (.int .u64 x.hi) ∧ W'.cell? ⟨w.heap.size + 1 + 1, 1, none⟩ = some (.int .u64 x.lo))
          (first | exact cvq i0 i1 i2 | exact cvq j0 j1 j2 | exact cvq k0 k1' k2' | exact cvq m0 m1 m2) ((first
            | (go_at_call 28; (with_reducible refine (hcm _ hB6.drew).mono ?_); clear hcm; rintro e w7 ⟨u, rfl, ho7, hb7⟩; obtain ⟨A7, k7, hu, hR7⟩ := ho7.rd encI_len; subst hu; have hB7 := below_call hB6.drew hB6.size hb7; have hQ7 : Below w6.heap.size w6 w7 := below_call (Below.refl _ w6).drew (Nat.le_refl _) hb7; have j0 := bl_own hQ7 i0; have j1 := bl_own hQ7 i1; have j2 := bl_own hQ7 i2)
            | (go_at_call 31; (with_reducible refine (hwt.out _ hB7 _ k7 hR7).mono ?_); rintro e w8 ⟨rfl, hb8⟩; have hB8 := below_call hB7 hB7.size hb8; have hBf := hB8; have k0 := bl_own hb8 j0; have k1' := bl_own hb8 j1; have k2' := bl_own hb8 j2)
            | (go_at_call 40; (with_reducible refine (hsx _ hB8).mono ?_); clear hsx; rintro e w9 ⟨rfl, hb9⟩; have hBf := below_call hB8 hB8.size hb9; have m0 := bl_own hb9 k0; have m1 := bl_own hb9 k1'; have m2 := bl_own hb9 k2')))
        go_wp2
        go_ret
        exact ⟨rfl, hBf⟩
    · rw [decide_eq_false hmc] at hmay
      clear hmc
      unfold cfgv at *
      unfold idv at *
      have hW : ∃ W, ((w.alloc (.cells #[.slice A c.W.length k, .int .u64 c.seed, .int .i64 c.epoch, .int .i64 c.num, .int .i64 c.den] 25)).alloc (.cells #[.slice A2 l.length k2, .slice A3 vs.length k3] 29)).alloc (.cells #[.int .u64 x.hi, .int .u64 x.lo] 35) = W := ⟨_, rfl⟩
      obtain ⟨W, hW⟩ := hW
      have hB : Below w.heap.size w W := by subst hW; exact (((Below.refl _ w).alloc (Nat.le_refl _) _).alloc (by simp <;> omega) _).alloc (by simp <;> omega) _
      have b0 : W.heap[w.heap.size]? = some (.cells #[.slice A c.W.length k, .int .u64 c.seed, .int .i64 c.epoch, .int .i64 c.num, .int .i64 c.den] 25 (0, 0)) := by subst hW; exact ha_lt (ha_lt (ha_at rfl))
      have b1 : W.heap[w.heap.size + 1]? = some (.cells #[.slice A2 l.length k2, .slice A3 vs.length k3] 29 (0, 0)) := by subst hW; exact ha_lt (ha_at (by simp))
      have b2 : W.heap[w.heap.size + 1 + 1]? = some (.cells #[.int .u64 x.hi, .int .u64 x.lo] 35 (0, 0)) := by subst hW; exact ha_at (by simp)
      go_enter Tryz.func13, Tryz.ntmps13
      go_wp2_with (first
        | (go_at_call 34; (with_reducible refine (haw _).mono ?_); clear haw; rintro e w1 ⟨rfl, hb1⟩; have hB1 := below_call hB hB.size hb1; have a0 := bl_own hb1 b0; have a1 := bl_own hb1 b1; have a2 := bl_own hb1 b2; obtain ⟨p0, p1, p2, p3, p4⟩ := blk5 a0; obtain ⟨p5, p6, _, _⟩ := blk2 a1; obtain ⟨p7, p8, _, _⟩ := blk2 a2)
        | (go_at_call 17; (with_reducible refine (hfew _).mono ?_); clear hfew; rintro e w2 ⟨rfl, hb2⟩; have hB2 := below_call hB1 hB1.size hb2; have d0 := bl_own hb2 a0; have d1 := bl_own hb2 a1; have d2 := bl_own hb2 a2; obtain ⟨q0, q1, q2, q3, q4⟩ := blk5 d0; obtain ⟨q5, q6, _, _⟩ := blk2 d1; obtain ⟨q7, q8, _, _⟩ := blk2 d2)
        | (go_at_call 23; (with_reducible refine (hmay _ hB2).mono ?_); clear hmay; rintro e w3 ⟨rfl, hb3⟩; have hB3 := below_call hB2 hB2.size hb3; have f0 := bl_own hb3 d0; have f1 := bl_own hb3 d1; have f2 := bl_own hb3 d2; obtain ⟨r0, r1, r2, r3, r4⟩ := blk5 f0; obtain ⟨r5, r6, _, _⟩ := blk2 f1; obtain ⟨r7, r8, _, _⟩ := blk2 f2))
      go_ret
      exact ⟨rfl, hB3⟩
  · rw [decide_eq_false hsm] at hfew
    clear hsm
    unfold cfgv at *
    unfold idv at *
    have hW : ∃ W, ((w.alloc (.cells #[.slice A c.W.length k, .int .u64 c.seed, .int .i64 c.epoch, .int .i64 c.num, .int .i64 c.den] 25)).alloc (.cells #[.slice A2 l.length k2, .slice A3 vs.length k3] 29)).alloc (.cells #[.int .u64 x.hi, .int .u64 x.lo] 35) = W := ⟨_, rfl⟩
    obtain ⟨W, hW⟩ := hW
    have hB : Below w.heap.size w W := by subst hW; exact (((Below.refl _ w).alloc (Nat.le_refl _) _).alloc (by simp <;> omega) _).alloc (by simp <;> omega) _
    have b0 : W.heap[w.heap.size]? = some (.cells #[.slice A c.W.length k, .int .u64 c.seed, .int .i64 c.epoch, .int .i64 c.num, .int .i64 c.den] 25 (0, 0)) := by subst hW; exact ha_lt (ha_lt (ha_at rfl))
    have b1 : W.heap[w.heap.size + 1]? = some (.cells #[.slice A2 l.length k2, .slice A3 vs.length k3] 29 (0, 0)) := by subst hW; exact ha_lt (ha_at (by simp))
    have b2 : W.heap[w.heap.size + 1 + 1]? = some (.cells #[.int .u64 x.hi, .int .u64 x.lo] 35 (0, 0)) := by subst hW; exact ha_at (by simp)
    go_enter Tryz.func13, Tryz.ntmps13
    go_wp2_with (first
      | (go_at_call 34; (with_reducible refine (haw _).mono ?_); clear haw; rintro e w1 ⟨rfl, hb1⟩; have hB1 := below_call hB hB.size hb1; have a0 := bl_own hb1 b0; have a1 := bl_own hb1 b1; have a2 := bl_own hb1 b2; obtain ⟨p0, p1, p2, p3, p4⟩ := blk5 a0; obtain ⟨p5, p6, _, _⟩ := blk2 a1; obtain ⟨p7, p8, _, _⟩ := blk2 a2)
      | (go_at_call 17; (with_reducible refine (hfew _).mono ?_); clear hfew; rintro e w2 ⟨rfl, hb2⟩; have hB2 := below_call hB1 hB1.size hb2; have d0 := bl_own hb2 a0; have d1 := bl_own hb2 a1; have d2 := bl_own hb2 a2; obtain ⟨q0, q1, q2, q3, q4⟩ := blk5 d0; obtain ⟨q5, q6, _, _⟩ := blk2 d1; obtain ⟨q7, q8, _, _⟩ := blk2 d2))
    go_ret
    exact ⟨rfl, hB2⟩
theorem none15_walk (A : Option Addr) (c : Cfg) (k : Nat) (A2 : Option Addr) (l : List Blk) (k2 : Nat) (A3 : Option Addr) (vs : List Vote) (k3 : Nat) (s : Int) (x : ID) (w : World) (_ : c.W.length ≤ k) (_ : k ≤ maxLen) (hr : Rd 1 encI w A c.W) (_ : c.Ok) (_ : l.length ≤ k2) (_ : k2 ≤ maxLen) (hr2 : Rd 5 encBlk w A2 l) (hok : ∀ b ∈ l, b.Ok) (_ : A2 = none → k2 = 0) (hlk : vs.length ≤ k3) (hkm : k3 ≤ maxLen) (hr3 : Rd 4 encVote w A3 vs) (_ : ∀ b ∈ vs, b.Ok) (hN : A3 = none → k3 = 0) (_ : I64 s) (_ : x.Ok) :
    Calls Tryz.prog 13 #[cfgv A k c, .agg #[.slice A2 l.length k2, .slice A3 vs.length k3], .int .i64 s, idv x] w fun e w' => e = .returned (.bool true) ∧ Below w.heap.size w w' :=
  none15_any c l vs s x A A2 A3 k k2 k3 w hok hr hr2 hr3
end Go.Proofs.YtaohkcdfjjiggaaGreat
