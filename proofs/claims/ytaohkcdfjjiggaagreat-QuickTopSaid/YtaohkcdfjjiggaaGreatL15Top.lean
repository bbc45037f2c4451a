/- QuickTop, walked. -/
import Derived.Test.YtaohkcdfjjiggaaGreatGJ
import Derived.Test.YtaohkcdfjjiggaaGreatGS
import Derived.Test.YtaohkcdfjjiggaaGreatGQ
namespace Go.Proofs.YtaohkcdfjjiggaaGreat
open Go.RowKit
set_option linter.unusedVariables false
set_option maxRecDepth 100000 in
set_option maxHeartbeats 8000000 in
theorem top15_any (c : Cfg) (l : List Blk) (vs : List Vote) (s : Int) (x : ID) (A A2 A3 : Option Addr) (k k2 k3 : Nat) (w : World) (hok : ∀ b ∈ l, b.Ok) (hr : Rd 1 encI w A c.W) (hr2 : Rd 5 encBlk w A2 l) (hr3 : Rd 4 encVote w A3 vs) :
    Calls Tryz.prog 10 #[cfgv A k c, .agg #[.slice A2 l.length k2, .slice A3 vs.length k3], .int .i64 s, idv x] w fun e w' => e = .returned (.bool true) ∧ Below w.heap.size w w' := by
  have hm := hr.1
  have hm2 := hr2.1
  have hm3 := hr3.1
  have haw := fun V => awake15_any V
  have hfew := fun V => fewN_any c l.length vs.length A A2 A3 k k2 k3 V hm hm2 hm3
  by_cases hsm : c.W.length ≤ 40 ∧ l.length ≤ 20 ∧ vs.length ≤ 30
  · rw [decide_eq_true hsm] at hfew
    obtain ⟨hsm1, hsm2, hsm3⟩ := hsm
    have hmay := fun V (hV : Below w.heap.size w V) => dmay_any c A k V (hr.below hV)
    by_cases hmc : MayC c
    · have hto := fun V (hV : Below w.heap.size w V) => qtop_any c l vs s x A A2 A3 k k2 k3 V (hr.below hV) (hr2.below hV) (hr3.below hV) (by omega) (by omega) hmc.few
      have hsu := Lib.hid (fun (y : ID) V (hV : Below w.heap.size w V) => qsure_any c l vs s y A A2 A3 k k2 k3 V (hr.below hV) (hr2.below hV) (hr3.below hV) (by omega) (by omega) hmc.few)
      have hch := fun V (hV : Below w.heap.size w V) => chain_any l x A2 k2 V (hr2.below hV) (fun m h => tree_ahead h) (by omega)
      have hcl := chain_bound (l := l) x
      unfold quickTop at hto
      generalize quickSure c l vs s = su at hto hsu
      obtain ⟨ch, hce⟩ : ∃ ch, chain l x = ch := ⟨_, rfl⟩
      rw [hce] at hto hch hcl
      have hcl' : ch.length ≤ 100001 := by omega
      obtain ⟨res, hrs⟩ : ∃ res, topOf su ch = res := ⟨_, rfl⟩
      rw [hrs] at hto
      obtain ⟨tb, ty⟩ := res
      have hrs' : Hid (topOf su (ch.drop 0) = (tb, ty)) := Lib.hid hrs
      have hts : Hid (tb = true → su ty = true) := Lib.hid (fun e => topOf_sure (by rw [hrs, e]))
      have hfinz := Lib.hid (fun (j : Nat) (h : ch.length ≤ j + 1) => show topOf su (ch.drop j) = (false, zid) from by
        have h2 : (ch.drop j).length ≤ 1 := by simp; omega
        match hd : ch.drop j, h2 with
        | [], _ => rfl
        | [_], _ => rfl)
      have hstp := Lib.hid (fun (j : Nat) (h : j + 1 < ch.length) => show topOf su (ch.drop j) = (if su (ch[j]'(by omega)) then (true, ch[j]'(by omega)) else topOf su (ch.drop (j + 1))) from by
        rw [List.drop_eq_getElem_cons (show j < ch.length by omega), List.drop_eq_getElem_cons (show j + 1 < ch.length by omega)]
        rfl)
      rw [decide_eq_true hmc] at hmay
      clear hrs hce hmc hcl
      dsimp only at hto
      unfold cfgv at *
      unfold idv at *
      have hsu := Lib.hid hsu.out
      have hW : ∃ W, ((w.alloc (.cells #[.slice A c.W.length k, .int .u64 c.seed, .int .i64 c.epoch, .int .i64 c.num, .int .i64 c.den] 25)).alloc (.cells #[.slice A2 l.length k2, .slice A3 vs.length k3] 29)).alloc (.cells #[.int .u64 x.hi, .int .u64 x.lo] 35) = W := ⟨_, rfl⟩
      obtain ⟨W, hW⟩ := hW
      have hB : Below w.heap.size w W := by subst hW; exact (((Below.refl _ w).alloc (Nat.le_refl _) _).alloc (by simp <;> omega) _).alloc (by simp <;> omega) _
      have b0 : W.heap[w.heap.size]? = some (.cells #[.slice A c.W.length k, .int .u64 c.seed, .int .i64 c.epoch, .int .i64 c.num, .int .i64 c.den] 25 (0, 0)) := by subst hW; exact ha_lt (ha_lt (ha_at rfl))
      have b1 : W.heap[w.heap.size + 1]? = some (.cells #[.slice A2 l.length k2, .slice A3 vs.length k3] 29 (0, 0)) := by subst hW; exact ha_lt (ha_at (by simp))
      have b2 : W.heap[w.heap.size + 1 + 1]? = some (.cells #[.int .u64 x.hi, .int .u64 x.lo] 35 (0, 0)) := by subst hW; exact ha_at (by simp)
      go_enter Tryz.func10, Tryz.ntmps10
      go_wp2_with (first
        | (go_at_call 34; (with_reducible refine (haw _).mono ?_); clear haw; rintro e w1 ⟨rfl, hb1⟩; have hB1 := below_call hB hB.size hb1; have a0 := bl_own hb1 b0; have a1 := bl_own hb1 b1; have a2 := bl_own hb1 b2; obtain ⟨p0, p1, p2, p3, p4⟩ := blk5 a0; obtain ⟨p5, p6, _, _⟩ := blk2 a1; obtain ⟨p7, p8, _, _⟩ := blk2 a2)
        | (go_at_call 17; (with_reducible refine (hfew _).mono ?_); clear hfew; rintro e w2 ⟨rfl, hb2⟩; have hB2 := below_call hB1 hB1.size hb2; have d0 := bl_own hb2 a0; have d1 := bl_own hb2 a1; have d2 := bl_own hb2 a2; obtain ⟨q0, q1, q2, q3, q4⟩ := blk5 d0; obtain ⟨q5, q6, _, _⟩ := blk2 d1; obtain ⟨q7, q8, _, _⟩ := blk2 d2)
        | (go_at_call 23; (with_reducible refine (hmay _ hB2).mono ?_); clear hmay; rintro e w3 ⟨rfl, hb3⟩; have hB3 := below_call hB2 hB2.size hb3; have f0 := bl_own hb3 d0; have f1 := bl_own hb3 d1; have f2 := bl_own hb3 d2; obtain ⟨r0, r1, r2, r3, r4⟩ := blk5 f0; obtain ⟨r5, r6, _, _⟩ := blk2 f1; obtain ⟨r7, r8, _, _⟩ := blk2 f2)
        | (go_at_call 36; (with_reducible refine (hto _ hB3).mono ?_); clear hto; rintro e w4 ⟨rfl, hb4⟩; have hB4 := below_call hB3 hB3.size hb4; have hl5 : Below w4.heap.size w4 (w4.alloc (.cells #[.int .u64 ty.hi, .int .u64 ty.lo] 35)) := (Below.refl _ w4).alloc (Nat.le_refl _) _; have hB5 := below_call hB4 hB4.size hl5; have g0 := bl_own hl5 (bl_own hb4 f0); have g1 := bl_own hl5 (bl_own hb4 f1); have g2 := bl_own hl5 (bl_own hb4 f2); have gh := ha_at (w := w4) (o := .cells #[.int .u64 ty.hi, .int .u64 ty.lo] 35) (k := w4.heap.size) rfl; obtain ⟨s0, s1, s2, s3, s4⟩ := blk5 g0; obtain ⟨s5, s6, _, _⟩ := blk2 g1; obtain ⟨s7, s8, _, _⟩ := blk2 g2)
        | (go_at_call 41; (with_reducible refine (hch _ hB5).mono ?_); clear hch; rintro e w6 ⟨u, rfl, ho6, hb6⟩; obtain ⟨A6, k6, hu, hR6⟩ := ho6.rd encID_len; subst hu; have hB6 := below_call hB5 hB5.size hb6; have i0 := bl_own hb6 g0; have i1 := bl_own hb6 g1; have i2 := bl_own hb6 g2; have ih := bl_own hb6 gh))
      clear p0 q0 r0 s0 p1 q1 r1 s1 p2 q2 r2 s2 p3 q3 r3 s3 p4 q4 r4 s4 p5 q5 r5 s5 p6 q6 r6 s6 p7 q7 r7 s7 p8 q8 r8 s8 a0 d0 f0 b0 g0 a1 d1 f1 b1 g1 a2 d2 f2 b2 g2 gh hl5 hb1 hb2 hb3 hb4 hb6 hB hB1 hB2 hB3 hB4 hB5 hW ho6
      go_loopw [14] (fun i wr => ∃ j : Nat, j ≤ ch.length ∧ i = .int .i64 j ∧ Hid (topOf su (ch.drop j) = (tb, ty)) ∧ Below w6.heap.size w6 wr) (fun i _ => ch.length - (intOf i).toNat)
      case atStart => exact ⟨0, Nat.zero_le _, rfl, hrs', Below.refl _ _⟩
      case round =>
        obtain ⟨j, hj, rfl, hto2, hBW⟩ := hrel
        have hBr := below_call hB6 hB6.size hBW
        have j0 := bl_own hBW i0
        have j1 := bl_own hBW i1
        have j2 := bl_own hBW i2
        have jh := bl_own hBW ih
        have hw1 : wrap64 ((j : Int) + 1) = (j : Int) + 1 := by unfold wrap64; omega
        by_cases hlt : j + 1 < ch.length
        · have hj0 : j < ch.length := by omega
          have hst := hstp.out j hlt
          obtain ⟨b, o, rfl, hbo, f0, f1⟩ := (hR6.below hBW).atID hj0
          obtain ⟨y, hy⟩ : ∃ y, ch[j] = y := ⟨_, rfl⟩
          rw [hy] at f0 f1 hst
          have hlt2 : (j : Int) + 1 < (ch.length : Int) := by omega
          have hsy := fun p => hsu.out y (gr wr p) (hBr.trans ((gr_below _ _).mono hBr.size))
          have heq := eql_idw y ty
          have hyh := Lib.hid hy
          clear hy
          obtain ⟨c0, c1, c2, c3, c4⟩ := blk5 j0
          obtain ⟨c5, c6, _, _⟩ := blk2 j1
          obtain ⟨c7, c8, _, _⟩ := blk2 j2
          obtain ⟨c9, c10, _, _⟩ := blk2 jh
          cases hsb : su y with
          | true =>
            rw [hsb] at hst
            have hrr := (show topOf su (ch.drop j) = (true, y) from hst).symm.trans hto2.out
            injection hrr with r1 r2
            subst r1 r2
            rw [decide_eq_true rfl] at heq
            have hsy2 := fun V hV => hsu.out y V hV
            simp only [hsb] at hsy2
            clear hst hto2 hsb hsy hts hrs'
            go_wp2_with fail
            have yc0 := gr_cell c0
            have yc1 := gr_cell c1
            have yc2 := gr_cell c2
            have yc3 := gr_cell c3
            have yc4 := gr_cell c4
            have yc5 := gr_cell c5
            have yc6 := gr_cell c6
            have yc7 := gr_cell c7
            have yc8 := gr_cell c8
            have yc9 := gr_cell c9
            have yc10 := gr_cell c10
            have yf0 := gr_cell f0
            have yf1 := gr_cell f1
            have hV : ∀ p, Below w.heap.size w (gr wr p) := fun p => hBr.trans ((gr_below _ _).mono hBr.size)
            refine wp_region_gr (by kernel_rfl) (by kernel_rfl) ?_
            repeat (go_big_quiet_step (fail))
            refine wpQuiet_nil ?_
            rintro _ ⟨pq, rfl⟩
            have hB5 := hV pq
            have hb5 := gr_below wr pq
            generalize gr wr pq = w5 at hB5 hb5 ⊢
            clear yc0 c0 yc1 c1 yc2 c2 yc3 c3 yc4 c4 yc5 c5 yc6 c6 yc7 c7 yc8 c8 yc9 c9 yc10 c10 yf0 yf1 hV
            have m0 := bl_own hb5 j0
            have m1 := bl_own hb5 j1
            have m2 := bl_own hb5 j2
            obtain ⟨t9, t10, _, _⟩ := blk2 (bl_own hb5 jh)
            obtain ⟨t0, t1, t2, t3, t4⟩ := blk5 m0
            obtain ⟨t5, t6, _, _⟩ := blk2 m1
            obtain ⟨t7, t8, _, _⟩ := blk2 m2
            go_wp2_with (go_at_call 40; (with_reducible refine (hsy2 _ hB5).mono ?_); clear hsy2; rintro e w9 ⟨rfl, hb9⟩; have hB9 := below_call hB5 hB5.size hb9)
            go_ret
            exact ⟨rfl, hB9⟩
          | false =>
            rw [hsb] at hst
            have hto3 : Hid (topOf su (ch.drop (j + 1)) = (tb, ty)) := Lib.hid ((show topOf su (ch.drop j) = topOf su (ch.drop (j + 1)) from hst).symm.trans hto2.out)
            have hney : tb = true → y ≠ ty := fun e e2 => by rw [e2, hts.out e] at hsb; cases hsb
            have hsbh := Lib.hid hsb
            clear hst hto2 hsb
            cases tb with
            | true =>
              have hd : decide (y = ty) = false := decide_eq_false (hney rfl)
              rw [hd] at heq
              clear hd hney hts hrs'
              go_wp2_with fail
              have yc0 := gr_cell c0
              have yc1 := gr_cell c1
              have yc2 := gr_cell c2
              have yc3 := gr_cell c3
              have yc4 := gr_cell c4
              have yc5 := gr_cell c5
              have yc6 := gr_cell c6
              have yc7 := gr_cell c7
              have yc8 := gr_cell c8
              have yc9 := gr_cell c9
              have yc10 := gr_cell c10
              have yf0 := gr_cell f0
              have yf1 := gr_cell f1
              have hV : ∀ p, Below w.heap.size w (gr wr p) := fun p => hBr.trans ((gr_below _ _).mono hBr.size)
              refine wp_region_gr (by kernel_rfl) (by kernel_rfl) ?_
              repeat (go_big_quiet_step (fail))
              refine wpQuiet_nil ?_
              rintro _ ⟨pq, rfl⟩
              have hB5 := hV pq
              have hb5 := gr_below wr pq
              generalize gr wr pq = w5 at hB5 hb5 ⊢
              clear yc0 c0 yc1 c1 yc2 c2 yc3 c3 yc4 c4 yc5 c5 yc6 c6 yc7 c7 yc8 c8 yc9 c9 yc10 c10 yf0 yf1 hV f0 f1 hsy
              have m0 := bl_own hb5 j0
              have m1 := bl_own hb5 j1
              have m2 := bl_own hb5 j2
              obtain ⟨b', o', he', _, f0, f1⟩ := ((hR6.below hBW).below hb5).atID hj0
              cases he'
              rw [hyh.out] at f0 f1
              obtain ⟨t0, t1, t2, t3, t4⟩ := blk5 m0
              obtain ⟨t5, t6, _, _⟩ := blk2 m1
              obtain ⟨t7, t8, _, _⟩ := blk2 m2
              have hsy := fun p => hsu.out y (gr w5 p) (hB5.trans ((gr_below _ _).mono hB5.size))
              simp only [hsbh.out] at hsy
              go_wp2_with fail
              have yt0 := gr_cell t0
              have yt1 := gr_cell t1
              have yt2 := gr_cell t2
              have yt3 := gr_cell t3
              have yt4 := gr_cell t4
              have yt5 := gr_cell t5
              have yt6 := gr_cell t6
              have yt7 := gr_cell t7
              have yt8 := gr_cell t8
              have yf0 := gr_cell f0
              have yf1 := gr_cell f1
              have hV : ∀ p, Below w.heap.size w (gr w5 p) := fun p => hB5.trans ((gr_below _ _).mono hB5.size)
              refine wp_region_gr (by kernel_rfl) (by kernel_rfl) ?_
              repeat (go_big_quiet_step ((first
                | (go_at_call 40; with_reducible exact Calls.gr_of (hsy _)))))
              refine wpQuiet_nil ?_
              rintro _ ⟨pq, rfl⟩
              go_wp2_with fail
              go_roundw
              case rel => exact ⟨j + 1, by omega, by go_num, hto3, below_call (below_call hBW hBW.size hb5) (below_call hBW hBW.size hb5).size (gr_below _ _)⟩
              case measure => simp [intOf]; omega
            | false =>
              clear heq hney hts hrs'
              go_wp2_with fail
              have yc0 := gr_cell c0
              have yc1 := gr_cell c1
              have yc2 := gr_cell c2
              have yc3 := gr_cell c3
              have yc4 := gr_cell c4
              have yc5 := gr_cell c5
              have yc6 := gr_cell c6
              have yc7 := gr_cell c7
              have yc8 := gr_cell c8
              have yc9 := gr_cell c9
              have yc10 := gr_cell c10
              have yf0 := gr_cell f0
              have yf1 := gr_cell f1
              have hV : ∀ p, Below w.heap.size w (gr wr p) := fun p => hBr.trans ((gr_below _ _).mono hBr.size)
              refine wp_region_gr (by kernel_rfl) (by kernel_rfl) ?_
              repeat (go_big_quiet_step (fail))
              refine wpQuiet_nil ?_
              rintro _ ⟨pq, rfl⟩
              have hB5 := hV pq
              have hb5 := gr_below wr pq
              generalize gr wr pq = w5 at hB5 hb5 ⊢
              clear yc0 c0 yc1 c1 yc2 c2 yc3 c3 yc4 c4 yc5 c5 yc6 c6 yc7 c7 yc8 c8 yc9 c9 yc10 c10 yf0 yf1 hV f0 f1 hsy
              have m0 := bl_own hb5 j0
              have m1 := bl_own hb5 j1
              have m2 := bl_own hb5 j2
              obtain ⟨b', o', he', _, f0, f1⟩ := ((hR6.below hBW).below hb5).atID hj0
              cases he'
              rw [hyh.out] at f0 f1
              obtain ⟨t0, t1, t2, t3, t4⟩ := blk5 m0
              obtain ⟨t5, t6, _, _⟩ := blk2 m1
              obtain ⟨t7, t8, _, _⟩ := blk2 m2
              have hsy := fun p => hsu.out y (gr w5 p) (hB5.trans ((gr_below _ _).mono hB5.size))
              simp only [hsbh.out] at hsy
              go_wp2_with fail
              have yt0 := gr_cell t0
              have yt1 := gr_cell t1
              have yt2 := gr_cell t2
              have yt3 := gr_cell t3
              have yt4 := gr_cell t4
              have yt5 := gr_cell t5
              have yt6 := gr_cell t6
              have yt7 := gr_cell t7
              have yt8 := gr_cell t8
              have yf0 := gr_cell f0
              have yf1 := gr_cell f1
              have hV : ∀ p, Below w.heap.size w (gr w5 p) := fun p => hB5.trans ((gr_below _ _).mono hB5.size)
              refine wp_region_gr (by kernel_rfl) (by kernel_rfl) ?_
              repeat (go_big_quiet_step ((first
                | (go_at_call 40; with_reducible exact Calls.gr_of (hsy _)))))
              refine wpQuiet_nil ?_
              rintro _ ⟨pq, rfl⟩
              go_wp2_with fail
              go_roundw
              case rel => exact ⟨j + 1, by omega, by go_num, hto3, below_call (below_call hBW hBW.size hb5) (below_call hBW hBW.size hb5).size (gr_below _ _)⟩
              case measure => simp [intOf]; omega
        · have hlt2 : ¬ ((j : Int) + 1 < (ch.length : Int)) := by omega
          have hrr := (hfinz.out j (by omega)).symm.trans hto2.out
          injection hrr with r1 r2
          subst r1 r2
          have heq := eql_idw zid zid
          rw [decide_eq_true (rfl : zid = zid)] at heq
          unfold zid at heq jh
          dsimp only at heq jh
          obtain ⟨c9, c10, _, _⟩ := blk2 jh
          clear hto2 hts hrs'
          go_wp2_with fail
          go_ret
          exact ⟨rfl, hBr⟩
    · rw [decide_eq_false hmc] at hmay
      clear hmc
      unfold cfgv at *
      unfold idv at *
      have hW : ∃ W, ((w.alloc (.cells #[.slice A c.W.length k, .int .u64 c.seed, .int .i64 c.epoch, .int .i64 c.num, .int .i64 c.den] 25)).alloc (.cells #[.slice A2 l.length k2, .slice A3 vs.length k3] 29)).alloc (.cells #[.int .u64 x.hi, .int .u64 x.lo] 35) = W := ⟨_, rfl⟩
      obtain ⟨W, hW⟩ := hW
      have hB : Below w.heap.size w W := by subst hW; exact (((Below.refl _ w).alloc (Nat.le_refl _) _).alloc (by simp <;> omega) _).alloc (by simp <;> omega) _
      have b0 : W.heap[w.heap.size]? = some (.cells #[.slice A c.W.length k, .int .u64 c.seed, .int .i64 c.epoch, .int .i64 c.num, .int .i64 c.den] 25 (0, 0)) := by subst hW; exact ha_lt (ha_lt (ha_at rfl))
      have b1 : W.heap[w.heap.size + 1]? = some (.cells #[.slice A2 l.length k2, .slice A3 vs.length k3] 29 (0, 0)) := by subst hW; exact ha_lt (ha_at (by simp))
      have b2 : W.heap[w.heap.size + 1 + 1]? = some (.cells #[.int .u64 x.hi, .int .u64 x.lo] 35 (0, 0)) := by subst hW; exact ha_at (by simp)
      go_enter Tryz.func10, Tryz.ntmps10
      go_wp2_with (first
        | (go_at_call 34; (with_reducible refine (haw _).mono ?_); clear haw; rintro e w1 ⟨rfl, hb1⟩; have hB1 := below_call hB hB.size hb1; have a0 := bl_own hb1 b0; have a1 := bl_own hb1 b1; have a2 := bl_own hb1 b2; obtain ⟨p0, p1, p2, p3, p4⟩ := blk5 a0; obtain ⟨p5, p6, _, _⟩ := blk2 a1; obtain ⟨p7, p8, _, _⟩ := blk2 a2)
        | (go_at_call 17; (with_reducible refine (hfew _).mono ?_); clear hfew; rintro e w2 ⟨rfl, hb2⟩; have hB2 := below_call hB1 hB1.size hb2; have d0 := bl_own hb2 a0; have d1 := bl_own hb2 a1; have d2 := bl_own hb2 a2; obtain ⟨q0, q1, q2, q3, q4⟩ := blk5 d0; obtain ⟨q5, q6, _, _⟩ := blk2 d1; obtain ⟨q7, q8, _, _⟩ := blk2 d2)
        | (go_at_call 23; (with_reducible refine (hmay _ hB2).mono ?_); clear hmay; rintro e w3 ⟨rfl, hb3⟩; have hB3 := below_call hB2 hB2.size hb3; have f0 := bl_own hb3 d0; have f1 := bl_own hb3 d1; have f2 := bl_own hb3 d2; obtain ⟨r0, r1, r2, r3, r4⟩ := blk5 f0; obtain ⟨r5, r6, _, _⟩ := blk2 f1; obtain ⟨r7, r8, _, _⟩ := blk2 f2))
      go_ret
      exact ⟨rfl, hB3⟩
  · rw [decide_eq_false hsm] at hfew
    clear hsm
    unfold cfgv at *
    unfold idv at *
    have hW : ∃ W, ((w.alloc (.cells #[.slice A c.W.length k, .int .u64 c.seed, .int .i64 c.epoch, .int .i64 c.num, .int .i64 c.den] 25)).alloc (.cells #[.slice A2 l.length k2, .slice A3 vs.length k3] 29)).alloc (.cells #[.int .u64 x.hi, .int .u64 x.lo] 35) = W := ⟨_, rfl⟩
    obtain ⟨W, hW⟩ := hW
    have hB : Below w.heap.size w W := by subst hW; exact (((Below.refl _ w).alloc (Nat.le_refl _) _).alloc (by simp <;> omega) _).alloc (by simp <;> omega) _
    have b0 : W.heap[w.heap.size]? = some (.cells #[.slice A c.W.length k, .int .u64 c.seed, .int .i64 c.epoch, .int .i64 c.num, .int .i64 c.den] 25 (0, 0)) := by subst hW; exact ha_lt (ha_lt (ha_at rfl))
    have b1 : W.heap[w.heap.size + 1]? = some (.cells #[.slice A2 l.length k2, .slice A3 vs.length k3] 29 (0, 0)) := by subst hW; exact ha_lt (ha_at (by simp))
    have b2 : W.heap[w.heap.size + 1 + 1]? = some (.cells #[.int .u64 x.hi, .int .u64 x.lo] 35 (0, 0)) := by subst hW; exact ha_at (by simp)
    go_enter Tryz.func10, Tryz.ntmps10
    go_wp2_with (first
      | (go_at_call 34; (with_reducible refine (haw _).mono ?_); clear haw; rintro e w1 ⟨rfl, hb1⟩; have hB1 := below_call hB hB.size hb1; have a0 := bl_own hb1 b0; have a1 := bl_own hb1 b1; have a2 := bl_own hb1 b2; obtain ⟨p0, p1, p2, p3, p4⟩ := blk5 a0; obtain ⟨p5, p6, _, _⟩ := blk2 a1; obtain ⟨p7, p8, _, _⟩ := blk2 a2)
      | (go_at_call 17; (with_reducible refine (hfew _).mono ?_); clear hfew; rintro e w2 ⟨rfl, hb2⟩; have hB2 := below_call hB1 hB1.size hb2; have d0 := bl_own hb2 a0; have d1 := bl_own hb2 a1; have d2 := bl_own hb2 a2; obtain ⟨q0, q1, q2, q3, q4⟩ := blk5 d0; obtain ⟨q5, q6, _, _⟩ := blk2 d1; obtain ⟨q7, q8, _, _⟩ := blk2 d2))
    go_ret
    exact ⟨rfl, hB2⟩
theorem top15_walk (A : Option Addr) (c : Cfg) (k : Nat) (A2 : Option Addr) (l : List Blk) (k2 : Nat) (A3 : Option Addr) (vs : List Vote) (k3 : Nat) (s : Int) (x : ID) (w : World) (_ : c.W.length ≤ k) (_ : k ≤ maxLen) (hr : Rd 1 encI w A c.W) (_ : c.Ok) (_ : l.length ≤ k2) (_ : k2 ≤ maxLen) (hr2 : Rd 5 encBlk w A2 l) (hok : ∀ b ∈ l, b.Ok) (_ : A2 = none → k2 = 0) (hlk : vs.length ≤ k3) (hkm : k3 ≤ maxLen) (hr3 : Rd 4 encVote w A3 vs) (_ : ∀ b ∈ vs, b.Ok) (hN : A3 = none → k3 = 0) (_ : I64 s) (_ : x.Ok) :
    Calls Tryz.prog 10 #[cfgv A k c, .agg #[.slice A2 l.length k2, .slice A3 vs.length k3], .int .i64 s, idv x] w fun e w' => e = .returned (.bool true) ∧ Below w.heap.size w w' :=
  top15_any c l vs s x A A2 A3 k k2 k3 w hok hr hr2 hr3
end Go.Proofs.YtaohkcdfjjiggaaGreat
