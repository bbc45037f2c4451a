/- QuickGood, walked. -/
import Derived.Test.YtdocgemfedohdaaGreatGD
import Derived.Test.YtdocgemfedohdaaGreatGP
import Derived.Test.YtdocgemfedohdaaGreatGQ
namespace Go.Proofs.YtdocgemfedohdaaGreat
open Go.RowKit
set_option linter.unusedVariables false
set_option maxRecDepth 100000 in
set_option maxHeartbeats 8000000 in
theorem good15_any (c : Cfg) (l : List Blk) (vs : List Vote) (s : Int) (x : ID) (bd : List Int) (A A2 A3 A9 : Option Addr) (k k2 k3 k9 : Nat) (w : World) (hr : Rd 1 encI w A c.W) (hr2 : Rd 5 encBlk w A2 l) (hr3 : Rd 4 encVote w A3 vs) (hr9 : Rd 1 encI w A9 bd) :
    Calls Tryz.prog 4 #[cfgv A k c, .agg #[.slice A2 l.length k2, .slice A3 vs.length k3], .int .i64 s, idv x, .slice A9 bd.length k9] w fun e w' => e = .returned (.bool true) ∧ Below w.heap.size w w' := by
  have hm := hr.1
  have hm2 := hr2.1
  have hm3 := hr3.1
  have hm9 := hr9.1
  have haw := fun V => awake15_any V
  have hfew := fun V => fewN_any c l.length vs.length A A2 A3 k k2 k3 V hm hm2 hm3
  by_cases hsm : c.W.length ≤ 40 ∧ l.length ≤ 20 ∧ vs.length ≤ 30
  · rw [decide_eq_true hsm] at hfew
    obtain ⟨hsm1, hsm2, hsm3⟩ := hsm
    by_cases hot : bd.length ≤ 40
    · have e1 : ¬ (40 < (bd.length : Int)) := by omega
      have hmay := fun V (hV : Below w.heap.size w V) => dmay_any c A k V (hr.below hV)
      by_cases hmc : MayC c
      · have hsx := fun V (hV : Below w.heap.size w V) => qsure_any c l vs s x A A2 A3 k k2 k3 V (hr.below hV) (hr2.below hV) (hr3.below hV) (by omega) (by omega) hmc.few
        rw [decide_eq_true hmc] at hmay
        cases hs : quickSure c l vs s x with
        | false =>
          rw [hs] at hsx
          clear hs hmc
          unfold cfgv at *
          unfold idv at *
          have hW : ∃ W, ((w.alloc (.cells #[.slice A c.W.length k, .int .u64 c.seed, .int .i64 c.epoch, .int .i64 c.num, .int .i64 c.den] 25)).alloc (.cells #[.slice A2 l.length k2, .slice A3 vs.length k3] 40)).alloc (.cells #[.int .u64 x.hi, .int .u64 x.lo] 28) = W := ⟨_, rfl⟩
          obtain ⟨W, hW⟩ := hW
          have hB : Below w.heap.size w W := by subst hW; exact (((Below.refl _ w).alloc (Nat.le_refl _) _).alloc (by simp <;> omega) _).alloc (by simp <;> omega) _
          have b0 : W.heap[w.heap.size]? = some (.cells #[.slice A c.W.length k, .int .u64 c.seed, .int .i64 c.epoch, .int .i64 c.num, .int .i64 c.den] 25 (0, 0)) := by subst hW; exact ha_lt (ha_lt (ha_at rfl))
          have b1 : W.heap[w.heap.size + 1]? = some (.cells #[.slice A2 l.length k2, .slice A3 vs.length k3] 40 (0, 0)) := by subst hW; exact ha_lt (ha_at (by simp))
          have b2 : W.heap[w.heap.size + 1 + 1]? = some (.cells #[.int .u64 x.hi, .int .u64 x.lo] 28 (0, 0)) := by subst hW; exact ha_at (by simp)
          go_enter Tryz.func4, Tryz.ntmps4
          go_wp2_with (first
            | (go_at_call 5; (with_reducible refine (haw _).mono ?_); clear haw; rintro e w1 ⟨rfl, hb1⟩; have hB1 := below_call hB hB.size hb1; have a0 := bl_own hb1 b0; have a1 := bl_own hb1 b1; have a2 := bl_own hb1 b2; obtain ⟨p0, p1, p2, p3, p4⟩ := blk5 a0; obtain ⟨p5, p6, _, _⟩ := blk2 a1; obtain ⟨p7, p8, _, _⟩ := blk2 a2)
            | (go_at_call 6; (with_reducible refine (hfew _).mono ?_); clear hfew; rintro e w2 ⟨rfl, hb2⟩; have hB2 := below_call hB1 hB1.size hb2; have d0 := bl_own hb2 a0; have d1 := bl_own hb2 a1; have d2 := bl_own hb2 a2; obtain ⟨q0, q1, q2, q3, q4⟩ := blk5 d0; obtain ⟨q5, q6, _, _⟩ := blk2 d1; obtain ⟨q7, q8, _, _⟩ := blk2 d2)
            | (go_at_call 7; (with_reducible refine (hmay _ hB2).mono ?_); clear hmay; rintro e w3 ⟨rfl, hb3⟩; have hB3 := below_call hB2 hB2.size hb3; have f0 := bl_own hb3 d0; have f1 := bl_own hb3 d1; have f2 := bl_own hb3 d2; obtain ⟨r0, r1, r2, r3, r4⟩ := blk5 f0; obtain ⟨r5, r6, _, _⟩ := blk2 f1; obtain ⟨r7, r8, _, _⟩ := blk2 f2)
            | (go_at_call 13; (with_reducible refine (hsx _ hB3).mono ?_); clear hsx; rintro e w4 ⟨rfl, hb4⟩; have hB4 := below_call hB3 hB3.size hb4; have g0 := bl_own hb4 f0; have g1 := bl_own hb4 f1; have g2 := bl_own hb4 f2; obtain ⟨s0, s1, s2, s3, s4⟩ := blk5 g0; obtain ⟨s5, s6, _, _⟩ := blk2 g1; obtain ⟨s7, s8, _, _⟩ := blk2 g2))
          go_ret
          exact ⟨rfl, hB4⟩
        | true =>
          rw [hs] at hsx
          have hof := fun V (hV : Below w.heap.size w V) => gof_any c vs s A A3 k k3 V (hr.below hV) (hr3.below hV) (by omega)
          have hcm := fun V (hV : Below w.heap.size w V) => committee_any c s A k V (hr.below hV)
          have hwt := Lib.hid (fun V (hV : Below w.heap.size w V) A4 k4 h4 => dweight_any c (comC c s) A A4 k k4 V (hr.below hV) h4)
          have hun := Lib.hid (fun (z : ID) V (hV : Below w.heap.size w V) => under_any l x z A2 k2 V (hr2.below hV) (by omega))
          have hlaw := Lib.hid (fun h => sure_good hmc hs (good_law hmc l vs s x bd) h)
          have hol := goldOf_len c vs s
          have hcl := comC_len c s
          have hin := Lib.hid (fun (y : Int) (hy : y ∈ comC c s) => (mem_comC.1 hy).2)
          have hqb := quickAll_bd c s
          have hr0 : weightC c (comC c s) = quickAll c s := rfl
          rw [hr0] at hwt
          clear hr0
          generalize quickAll c s = al at hwt hlaw hqb
          obtain ⟨g, hg⟩ : ∃ g, goldOf c vs s = g := ⟨_, rfl⟩
          obtain ⟨cm, hcme⟩ : ∃ cm, comC c s = cm := ⟨_, rfl⟩
          rw [hg] at hof hol hlaw
          rw [hcme] at hcm hcl hlaw hwt hin
          clear hg hcme hs
          have hg30 : g.length ≤ 30 := by omega
          have hwb := Lib.hid (fun L => sumL_bd2 (wkF_bd hmc bd) L)
          have hgb := Lib.hid (fun L => sumL_bd2 (gdF_bd hmc l hg30 x bd) L)
          have hob := Lib.hid (fun y L => sumL_bd2 (onGd_bd hmc l x y) L)
          have hab := Lib.hid (fun y => wAt_bd hmc y)
          have hden : 1 ≤ c.den ∧ c.den ≤ 1000 ∧ 0 ≤ c.num ∧ c.num ≤ 1000 := by obtain ⟨-, -, -, n1, n2, n3, n4⟩ := hmc; omega
          have hden' := Lib.hid hden
          have hqb' := Lib.hid hqb
          clear hmc hden hqb
          unfold cfgv at *
          unfold idv at *
          have hwt := Lib.hid hwt.out
          have hun := Lib.hid hun.out
          have hW : ∃ W, ((w.alloc (.cells #[.slice A c.W.length k, .int .u64 c.seed, .int .i64 c.epoch, .int .i64 c.num, .int .i64 c.den] 25)).alloc (.cells #[.slice A2 l.length k2, .slice A3 vs.length k3] 40)).alloc (.cells #[.int .u64 x.hi, .int .u64 x.lo] 28) = W := ⟨_, rfl⟩
          obtain ⟨W, hW⟩ := hW
          have hB : Below w.heap.size w W := by subst hW; exact (((Below.refl _ w).alloc (Nat.le_refl _) _).alloc (by simp <;> omega) _).alloc (by simp <;> omega) _
          have b0 : W.heap[w.heap.size]? = some (.cells #[.slice A c.W.length k, .int .u64 c.seed, .int .i64 c.epoch, .int .i64 c.num, .int .i64 c.den] 25 (0, 0)) := by subst hW; exact ha_lt (ha_lt (ha_at rfl))
          have b1 : W.heap[w.heap.size + 1]? = some (.cells #[.slice A2 l.length k2, .slice A3 vs.length k3] 40 (0, 0)) := by subst hW; exact ha_lt (ha_at (by simp))
          have b2 : W.heap[w.heap.size + 1 + 1]? = some (.cells #[.int .u64 x.hi, .int .u64 x.lo] 28 (0, 0)) := by subst hW; exact ha_at (by simp)
          go_enter Tryz.func4, Tryz.ntmps4
          go_wp2_with (first
            | (go_at_call 5; (with_reducible refine (haw _).mono ?_); clear haw; rintro e w1 ⟨rfl, hb1⟩; have hB1 := below_call hB hB.size hb1; have a0 := bl_own hb1 b0; have a1 := bl_own hb1 b1; have a2 := bl_own hb1 b2; obtain ⟨p0, p1, p2, p3, p4⟩ := blk5 a0; obtain ⟨p5, p6, _, _⟩ := blk2 a1; obtain ⟨p7, p8, _, _⟩ := blk2 a2)
            | (go_at_call 6; (with_reducible refine (hfew _).mono ?_); clear hfew; rintro e w2 ⟨rfl, hb2⟩; have hB2 := below_call hB1 hB1.size hb2; have d0 := bl_own hb2 a0; have d1 := bl_own hb2 a1; have d2 := bl_own hb2 a2; obtain ⟨q0, q1, q2, q3, q4⟩ := blk5 d0; obtain ⟨q5, q6, _, _⟩ := blk2 d1; obtain ⟨q7, q8, _, _⟩ := blk2 d2)
            | (go_at_call 7; (with_reducible refine (hmay _ hB2).mono ?_); clear hmay; rintro e w3 ⟨rfl, hb3⟩; have hB3 := below_call hB2 hB2.size hb3; have f0 := bl_own hb3 d0; have f1 := bl_own hb3 d1; have f2 := bl_own hb3 d2; obtain ⟨r0, r1, r2, r3, r4⟩ := blk5 f0; obtain ⟨r5, r6, _, _⟩ := blk2 f1; obtain ⟨r7, r8, _, _⟩ := blk2 f2)
            | (go_at_call 13; (with_reducible refine (hsx _ hB3).mono ?_); clear hsx; rintro e w4 ⟨rfl, hb4⟩; have hB4 := below_call hB3 hB3.size hb4; have g0 := bl_own hb4 f0; have g1 := bl_own hb4 f1; have g2 := bl_own hb4 f2; obtain ⟨s0, s1, s2, s3, s4⟩ := blk5 g0; obtain ⟨s5, s6, _, _⟩ := blk2 g1; obtain ⟨s7, s8, _, _⟩ := blk2 g2)
            | (go_at_call 9; (with_reducible refine (hcm _ hB4).mono ?_); clear hcm; rintro e w5 ⟨u, rfl, ho5, hb5⟩; obtain ⟨A5, k5, hu, hR5⟩ := ho5.rd encI_len; subst hu; have hB5 := below_call hB4 hB4.size hb5; have i0 := bl_own hb5 g0; have i1 := bl_own hb5 g1; have i2 := bl_own hb5 g2; obtain ⟨t0, t1, t2, t3, t4⟩ := blk5 i0; obtain ⟨t5, t6, _, _⟩ := blk2 i1; obtain ⟨t7, t8, _, _⟩ := blk2 i2)
            | (go_at_call 10; (with_reducible refine (hwt.out _ hB5 _ _ hR5).mono ?_); rintro e w6 ⟨rfl, hb6⟩; have hB6 := below_call hB5 hB5.size hb6; have n0 := bl_own hb6 i0; have n1 := bl_own hb6 i1; have n2 := bl_own hb6 i2; obtain ⟨v0, v1, v2, v3, v4⟩ := blk5 n0; obtain ⟨v5, v6, _, _⟩ := blk2 n1; obtain ⟨v7, v8, _, _⟩ := blk2 n2)
            | (go_at_call 14; (with_reducible refine (hof _ hB6).mono ?_); clear hof; rintro e w7 ⟨A7, k7, rfl, hR7, hb7⟩; have hB7 := below_call hB6 hB6.size hb7; have o0 := bl_own hb7 n0; have o1 := bl_own hb7 n1; have o2 := bl_own hb7 n2))
          clear p0 q0 r0 s0 t0 v0 p1 q1 r1 s1 t1 v1 p2 q2 r2 s2 t2 v2 p3 q3 r3 s3 t3 v3 p4 q4 r4 s4 t4 v4 p5 q5 r5 s5 t5 v5 p6 q6 r6 s6 t6 v6 p7 q7 r7 s7 t7 v7 p8 q8 r8 s8 t8 v8 a0 b0 d0 f0 g0 i0 n0 a1 b1 d1 f1 g1 i1 n1 a2 b2 d2 f2 g2 i2 n2 hb1 hb2 hb3 hb4 hb5 hB hB1 hB2 hB3 hB4 hB5 hB6 hW ho5
          have hRc := (hR5.below hb6).below hb7
          have hr97 := hr9.below hB7
          have hrW := hr.below hB7
          clear hb6 hb7 hR5
          go_loopw [16, 17, 18, 19, 20] (fun wk gd i _u19 _u20 wr => ∃ j : Nat, j ≤ cm.length ∧ i = .int .i64 j ∧ wk = .int .i64 (sumL (wkF c bd) (cm.take j)) ∧ gd = .int .i64 (sumL (gdF c l g x bd) (cm.take j)) ∧ Below w7.heap.size w7 wr) (fun _ _ i _ _ _ => cm.length - (intOf i).toNat)
          case atStart => exact ⟨0, Nat.zero_le _, rfl, rfl, rfl, Below.refl _ _⟩
          case round =>
            obtain ⟨j, hj, rfl, hwk, hgd, hBW⟩ := hrel
            have hBr := below_call hB7 hB7.size hBW
            have tb : (cm.take j).length ≤ 12 := by simp; omega
            have wb := hwb.out (cm.take j)
            have gb := hgb.out (cm.take j)
            have wb : 0 ≤ sumL (wkF c bd) (cm.take j) ∧ sumL (wkF c bd) (cm.take j) ≤ 13194139533312 := by omega
            have gb : 0 ≤ sumL (gdF c l g x bd) (cm.take j) ∧ sumL (gdF c l g x bd) (cm.take j) ≤ 395824185999360 := by omega
            by_cases hlt : j < cm.length
            · have hsw := Lib.hid (show sumL (wkF c bd) (cm.take (j + 1)) = sumL (wkF c bd) (cm.take j) + wkF c bd cm[j] by rw [← List.take_append_getElem hlt]; exact sumL_snoc _ _ _)
              have hsg := Lib.hid (show sumL (gdF c l g x bd) (cm.take (j + 1)) = sumL (gdF c l g x bd) (cm.take j) + gdF c l g x bd cm[j] by rw [← List.take_append_getElem hlt]; exact sumL_snoc _ _ _)
              obtain ⟨WK, hWK⟩ : ∃ WK, sumL (wkF c bd) (cm.take j) = WK := ⟨_, rfl⟩
              obtain ⟨GD, hGD⟩ : ∃ GD, sumL (gdF c l g x bd) (cm.take j) = GD := ⟨_, rfl⟩
              rw [hWK] at hsw hwk wb
              rw [hGD] at hsg hgd gb
              clear hWK hGD tb
              subst hwk hgd
              obtain ⟨m, hmW, hmy, -⟩ := hin.out cm[j] (List.getElem_mem hlt)
              have hcell := Lib.hid (show ∃ b ofs, A5 = some ⟨b, ofs, none⟩ ∧ ∀ V, Below w7.heap.size w7 V → V.cell? ⟨b, ofs + j, none⟩ = some (.int .i64 (m : Int)) from by
                obtain ⟨b, ofs, e, _, _⟩ := hRc.atI hlt
                refine ⟨b, ofs, e, fun V hV => ?_⟩
                obtain ⟨b', ofs', e', _, d⟩ := (hRc.below hV).atI hlt
                rw [e] at e'
                cases e'
                rw [hmy] at d
                exact d)
              have hcelw := Lib.hid (show ∃ b ofs, A = some ⟨b, ofs, none⟩ ∧ ∀ V, Below w7.heap.size w7 V → V.cell? ⟨b, ofs + m, none⟩ = some (.int .i64 (wAt c (m : Int))) from by
                obtain ⟨b, ofs, e, _, _⟩ := hrW.atI hmW
                refine ⟨b, ofs, e, fun V hV => ?_⟩
                obtain ⟨b', ofs', e', _, d⟩ := (hrW.below hV).atI hmW
                rw [e] at e'
                cases e'
                have e3 : wAt c (m : Int) = c.W[m] := by unfold wAt; rw [Int.toNat_natCast, List.getElem?_eq_getElem hmW]; rfl
                rw [e3]
                exact d)
              rw [hmy] at hsw hsg
              obtain ⟨b6, o6, rfl, hc6⟩ := hcell.out
              obtain ⟨bw, ow, rfl, hcw⟩ := hcelw.out
              have hc6' := Lib.hid hc6
              have hcw' := Lib.hid hcw
              clear hc6 hcw hcell hcelw hmy
              have ab := hab.out (m : Int)
              have hha := rhas_any (m : Int) bd A9 k9 wr (hr97.below hBW)
              have cf := hc6'.out _ hBW
              have cw := hcw'.out _ hBW
              obtain ⟨r0, r1, r2, r3, r4⟩ := blk5 (bl_own hBW o0)
              have hi1 : (0 : Int) ≤ (j : Int) := by omega
              have hi2 : (j : Int) < (cm.length : Int) := by omega
              have hi3 : (0 : Int) ≤ (m : Int) := by omega
              have hi4 : (m : Int) < (c.W.length : Int) := by omega
              by_cases hk : (m : Int) ∈ bd
              · have hs1 := Lib.hid (show sumL (wkF c bd) (cm.take (j + 1)) = WK + wAt c m by rw [hsw.out]; unfold wkF; rw [if_pos hk])
                have hs2 := Lib.hid (show sumL (gdF c l g x bd) (cm.take (j + 1)) = GD by rw [hsg.out]; unfold gdF; rw [if_pos hk, Int.add_zero])
                rw [decide_eq_true hk] at hha
                clear hk hsw hsg
                generalize wAt c (m : Int) = aa at *
                have hwx2 : IntKind.i64.wrap (WK + aa) = WK + aa := Go.IntWalk.i64_in _ (by omega)
                go_wp2_with (go_at_call 15; (with_reducible refine hha.mono ?_); clear hha; rintro e w9 ⟨rfl, hw9⟩; subst hw9)
                have yr0 := gr_cell r0
                have ycf := gr_cell cf
                have ycw := gr_cell cw
                have hV : ∀ p, Below w.heap.size w (gr w9 p) := fun p => hBr.trans ((gr_below _ _).mono hBr.size)
                refine wp_region_gr (by kernel_rfl) (by kernel_rfl) ?_
                repeat (go_big_quiet_step (fail))
                refine wpQuiet_nil ?_
                rintro _ ⟨pq, rfl⟩
                have hb10 := gr_below w9 pq
                generalize gr w9 pq = wo at hb10 ⊢
                have hBo := below_call hBW hBW.size hb10
                clear yr0 ycf ycw hV r0 r1 r2 r3 r4 cf cw hBr hBW hb10 hwx2
                go_wp2_with fail
                go_loopw [17, 20] (fun gd q wv => gd = .int .i64 GD ∧ q = .int .i64 0 ∧ Below wo.heap.size wo wv) (fun _ _ _ => 0)
                case atStart => exact ⟨rfl, rfl, Below.refl _ _⟩
                case round =>
                  obtain ⟨rfl, rfl, hBX⟩ := hrel
                  have hBx := below_call hBo hBo.size hBX
                  by_cases hg0 : 0 < g.length
                  · have hg1 : (0 : Int) < (g.length : Int) := by omega
                    go_wp2_with fail
                    go_roundw
                    case rel => exact ⟨j + 1, hlt, by go_num, by rw [hs1.out], by rw [hs2.out], hBx⟩
                    case measure => simp [intOf]; omega
                  · have hg1 : ¬ ((0 : Int) < (g.length : Int)) := by omega
                    go_wp2_with fail
                    go_roundw
                    case rel => exact ⟨j + 1, hlt, by go_num, by rw [hs1.out], by rw [hs2.out], hBx⟩
                    case measure => simp [intOf]; omega
              · have hs1 := Lib.hid (show sumL (wkF c bd) (cm.take (j + 1)) = WK by rw [hsw.out]; unfold wkF; rw [if_neg hk, Int.add_zero])
                have hs2 := Lib.hid (show sumL (gdF c l g x bd) (cm.take (j + 1)) = GD + sumL (onGd c l x (m : Int)) g by rw [hsg.out]; unfold gdF; rw [if_neg hk])
                rw [decide_eq_false hk] at hha
                clear hk hsw hsg r0 r1 r2 r3 r4 cw
                go_wp2_with (go_at_call 15; (with_reducible refine hha.mono ?_); clear hha; rintro e w9 ⟨rfl, hw9⟩; subst hw9)
                clear cf
                go_loopw [17, 20] (fun gd q wv => ∃ kk : Nat, kk ≤ g.length ∧ q = .int .i64 kk ∧ gd = .int .i64 (GD + sumL (onGd c l x (m : Int)) (g.take kk)) ∧ Below w9.heap.size w9 wv) (fun _ q _ => g.length - (intOf q).toNat)
                case atStart => exact ⟨0, Nat.zero_le _, rfl, by show _ = Value.int .i64 (GD + 0); rw [Int.add_zero], Below.refl _ _⟩
                case round =>
                  obtain ⟨kk, hkk, rfl, hgd, hBX⟩ := hrel
                  have hBx := below_call hBW hBW.size hBX
                  have hBxw := below_call hB7 hB7.size hBx
                  have cf := hc6'.out _ hBx
                  have cw := hcw'.out _ hBx
                  by_cases hlt3 : kk < g.length
                  · obtain ⟨b3, o3, rfl, hbo3, d0, d1, d2, d3⟩ := (hR7.below hBx).atVote hlt3
                    have hsn := Lib.hid (show sumL (onGd c l x (m : Int)) (g.take (kk + 1)) = sumL (onGd c l x (m : Int)) (g.take kk) + onGd c l x (m : Int) g[kk] by rw [← List.take_append_getElem hlt3]; exact sumL_snoc _ _ _)
                    have ob := hob.out (m : Int) (g.take kk)
                    have tb2 : (g.take kk).length ≤ 30 := by simp; omega
                    have ob : 0 ≤ sumL (onGd c l x (m : Int)) (g.take kk) ∧ sumL (onGd c l x (m : Int)) (g.take kk) ≤ 32985348833280 := by omega
                    obtain ⟨z, hz⟩ : ∃ z, g[kk] = z := ⟨_, rfl⟩
                    rw [hz] at d0 d1 d2 d3 hsn
                    clear hz tb2
                    obtain ⟨SN, hSN⟩ : ∃ SN, sumL (onGd c l x (m : Int)) (g.take kk) = SN := ⟨_, rfl⟩
                    rw [hSN] at hgd hsn ob
                    clear hSN
                    subst hgd
                    obtain ⟨r0, r1, r2, r3, r4⟩ := blk5 (bl_own hBx o0)
                    obtain ⟨r5, r6, _, _⟩ := blk2 (bl_own hBx o1)
                    obtain ⟨r7, r8, _, _⟩ := blk2 (bl_own hBx o2)
                    have hk1 : (0 : Int) ≤ (kk : Int) := by omega
                    have hk2 : (kk : Int) < (g.length : Int) := by omega
                    have hun1 := fun p => hun.out z.head (gr wr p) (hBxw.trans ((gr_below _ _).mono hBxw.size))
                    obtain ⟨uz, huz⟩ : ∃ uz, decide (x ∈ chain l z.head) = uz := ⟨_, rfl⟩
                    rw [huz] at hun1
                    by_cases he : z.frm = (m : Int)
                    · have hb1 : (z.frm == (m : Int)) = true := by simpa using he
                      cases uz with
                      | true =>
                        have hs3 := Lib.hid (show sumL (onGd c l x (m : Int)) (g.take (kk + 1)) = SN + wAt c m by rw [hsn.out]; unfold onGd; rw [if_pos ⟨he, of_decide_eq_true huz⟩])
                        clear hsn he huz
                        obtain ⟨aa, haa⟩ : ∃ aa, wAt c (m : Int) = aa := ⟨_, rfl⟩
                        rw [haa] at cw ab hs3
                        clear haa
                        have hwx2 : IntKind.i64.wrap (GD + SN + aa) = GD + SN + aa := Go.IntWalk.i64_in _ (by omega)
                        go_wp2_with fail
                        have yd0 := gr_cell d0
                        have yd2 := gr_cell d2
                        have yd3 := gr_cell d3
                        have ycf := gr_cell cf
                        have yr5 := gr_cell r5
                        have yr7 := gr_cell r7
                        have yr8 := gr_cell r8
                        have yr0 := gr_cell r0
                        have ycw := gr_cell cw
                        have hV : ∀ p, Below w.heap.size w (gr wr p) := fun p => hBxw.trans ((gr_below _ _).mono hBxw.size)
                        refine wp_region_gr (by kernel_rfl) (by kernel_rfl) ?_
                        repeat (go_big_quiet_step ((first
                          | (go_at_call 16; with_reducible exact Calls.gr_of (hun1 _)))))
                        refine wpQuiet_nil ?_
                        rintro _ ⟨pq, rfl⟩
                        have hb10 := gr_below wr pq
                        have hB10 := hV pq
                        have hb10 := gr_below wr pq
                        have hB10 := hV pq
                        have z0 := yr0 pq
                        have z1 := ycf pq
                        have z2 := ycw pq
                        generalize gr wr pq = wq at hb10 hB10 z0 z1 z2 ⊢
                        have hBq := below_call hBX hBX.size hb10
                        clear yd0 yd2 yd3 ycf yr5 yr7 yr8 yr0 ycw d0 d2 d3 cf r5 r7 r8 r0 r1 r2 r3 r4 r6 d1 cw hV hun1
                        go_wp2_with fail
                        have yz0 := gr_cell z0
                        have yz1 := gr_cell z1
                        have yz2 := gr_cell z2
                        have hV : ∀ p, Below w.heap.size w (gr wq p) := fun p => hB10.trans ((gr_below _ _).mono hB10.size)
                        refine wp_region_gr (by kernel_rfl) (by kernel_rfl) ?_
                        repeat (go_big_quiet_step (fail))
                        refine wpQuiet_nil ?_
                        rintro _ ⟨pq, rfl⟩
                        clear hwx2
                        go_wp2_with fail
                        go_roundw
                        case rel => exact ⟨kk + 1, hlt3, by go_num, by rw [hs3.out, Int.add_assoc], below_call hBq hBq.size (gr_below _ _)⟩
                        case measure => simp [intOf]; omega
                      | false =>
                        have hs3 := Lib.hid (show sumL (onGd c l x (m : Int)) (g.take (kk + 1)) = SN by rw [hsn.out]; unfold onGd; rw [if_neg (fun h => of_decide_eq_false huz h.2), Int.add_zero])
                        clear hsn he huz
                        go_wp2_with fail
                        have yd0 := gr_cell d0
                        have yd2 := gr_cell d2
                        have yd3 := gr_cell d3
                        have ycf := gr_cell cf
                        have yr5 := gr_cell r5
                        have yr7 := gr_cell r7
                        have yr8 := gr_cell r8
                        have hV : ∀ p, Below w.heap.size w (gr wr p) := fun p => hBxw.trans ((gr_below _ _).mono hBxw.size)
                        refine wp_region_gr (by kernel_rfl) (by kernel_rfl) ?_
                        repeat (go_big_quiet_step ((first
                          | (go_at_call 16; with_reducible exact Calls.gr_of (hun1 _)))))
                        refine wpQuiet_nil ?_
                        rintro _ ⟨pq, rfl⟩
                        go_wp2_with fail
                        go_roundw
                        case rel => exact ⟨kk + 1, hlt3, by go_num, by rw [hs3.out], below_call hBX hBX.size (gr_below _ _)⟩
                        case measure => simp [intOf]; omega
                    · have hb1 : (z.frm == (m : Int)) = false := by simpa using he
                      have hs3 := Lib.hid (show sumL (onGd c l x (m : Int)) (g.take (kk + 1)) = SN by rw [hsn.out]; unfold onGd; rw [if_neg (fun h => he h.1), Int.add_zero])
                      clear hsn he huz hun1
                      go_wp2_with fail
                      have yd0 := gr_cell d0
                      have ycf := gr_cell cf
                      have hV : ∀ p, Below w.heap.size w (gr wr p) := fun p => hBxw.trans ((gr_below _ _).mono hBxw.size)
                      refine wp_region_gr (by kernel_rfl) (by kernel_rfl) ?_
                      repeat (go_big_quiet_step (fail))
                      refine wpQuiet_nil ?_
                      rintro _ ⟨pq, rfl⟩
                      go_wp2_with fail
                      go_roundw
                      case rel => exact ⟨kk + 1, hlt3, by go_num, by rw [hs3.out], below_call hBX hBX.size (gr_below _ _)⟩
                      case measure => simp [intOf]; omega
                  · obtain rfl : kk = g.length := by omega
                    rw [List.take_length] at hgd
                    subst hgd
                    have hk2 : ¬ ((g.length : Int) < (g.length : Int)) := by omega
                    go_wp2_with fail
                    go_roundw
                    case rel => exact ⟨j + 1, hlt, by go_num, by rw [hs1.out], by rw [hs2.out], hBx⟩
                    case measure => simp [intOf]; omega
            · obtain rfl : j = cm.length := by omega
              rw [List.take_length] at hwk hgd wb gb
              obtain ⟨WK, hWK⟩ : ∃ WK, sumL (wkF c bd) cm = WK := ⟨_, rfl⟩
              obtain ⟨GD, hGD⟩ : ∃ GD, sumL (gdF c l g x bd) cm = GD := ⟨_, rfl⟩
              rw [hWK] at hwk wb hlaw
              rw [hGD] at hgd gb hlaw
              clear hWK hGD tb
              subst hwk hgd
              obtain ⟨r0, r1, r2, r3, r4⟩ := blk5 (bl_own hBW o0)
              have hi2 : ¬ ((cm.length : Int) < (cm.length : Int)) := by omega
              obtain ⟨y1, y2, y3, y4⟩ := hden'.out
              obtain ⟨y5, y6⟩ := hqb'.out
              have b1 : 0 ≤ WK * c.den ∧ WK * c.den ≤ 13194139533312 * 1000 := ⟨Int.mul_nonneg wb.1 (by omega), Int.mul_le_mul wb.2 y2 (by omega) (by omega)⟩
              have b2 : 0 ≤ al * c.num ∧ al * c.num ≤ 13194139533312 * 1000 := ⟨Int.mul_nonneg y5 y3, Int.mul_le_mul y6 y4 y3 (by omega)⟩
              have hl2 := hlaw.out
              have h1 : wrap64 (WK * c.den) = WK * c.den := by unfold wrap64; omega
              have h2 : wrap64 (al * c.num) = al * c.num := by unfold wrap64; omega
              have h3 : wrap64 (2 * GD) = 2 * GD := by unfold wrap64; omega
              by_cases hc : al * c.num < WK * c.den
              · have e5 : decide (al * c.num < WK * c.den) = true := decide_eq_true hc
                have e6 : decide (WK * c.den > al * c.num) = true := decide_eq_true hc
                clear hl2 b1 b2
                go_wp2_with fail
                go_ret
                exact ⟨rfl, hBr⟩
              · have e5 : decide (al * c.num < WK * c.den) = false := decide_eq_false hc
                have e6 : decide (WK * c.den > al * c.num) = false := decide_eq_false hc
                have hf := hl2 (by omega)
                have e7 : decide (al < 2 * GD) = true := decide_eq_true hf
                have e8 : decide (2 * GD > al) = true := decide_eq_true hf
                clear hl2 b1 b2
                go_wp2_with fail
                go_ret
                exact ⟨rfl, hBr⟩
      · rw [decide_eq_false hmc] at hmay
        clear hmc
        unfold cfgv at *
        unfold idv at *
        have hW : ∃ W, ((w.alloc (.cells #[.slice A c.W.length k, .int .u64 c.seed, .int .i64 c.epoch, .int .i64 c.num, .int .i64 c.den] 25)).alloc (.cells #[.slice A2 l.length k2, .slice A3 vs.length k3] 40)).alloc (.cells #[.int .u64 x.hi, .int .u64 x.lo] 28) = W := ⟨_, rfl⟩
        obtain ⟨W, hW⟩ := hW
        have hB : Below w.heap.size w W := by subst hW; exact (((Below.refl _ w).alloc (Nat.le_refl _) _).alloc (by simp <;> omega) _).alloc (by simp <;> omega) _
        have b0 : W.heap[w.heap.size]? = some (.cells #[.slice A c.W.length k, .int .u64 c.seed, .int .i64 c.epoch, .int .i64 c.num, .int .i64 c.den] 25 (0, 0)) := by subst hW; exact ha_lt (ha_lt (ha_at rfl))
        have b1 : W.heap[w.heap.size + 1]? = some (.cells #[.slice A2 l.length k2, .slice A3 vs.length k3] 40 (0, 0)) := by subst hW; exact ha_lt (ha_at (by simp))
        have b2 : W.heap[w.heap.size + 1 + 1]? = some (.cells #[.int .u64 x.hi, .int .u64 x.lo] 28 (0, 0)) := by subst hW; exact ha_at (by simp)
        go_enter Tryz.func4, Tryz.ntmps4
        go_wp2_with (first
          | (go_at_call 5; (with_reducible refine (haw _).mono ?_); clear haw; rintro e w1 ⟨rfl, hb1⟩; have hB1 := below_call hB hB.size hb1; have a0 := bl_own hb1 b0; have a1 := bl_own hb1 b1; have a2 := bl_own hb1 b2; obtain ⟨p0, p1, p2, p3, p4⟩ := blk5 a0; obtain ⟨p5, p6, _, _⟩ := blk2 a1; obtain ⟨p7, p8, _, _⟩ := blk2 a2)
          | (go_at_call 6; (with_reducible refine (hfew _).mono ?_); clear hfew; rintro e w2 ⟨rfl, hb2⟩; have hB2 := below_call hB1 hB1.size hb2; have d0 := bl_own hb2 a0; have d1 := bl_own hb2 a1; have d2 := bl_own hb2 a2; obtain ⟨q0, q1, q2, q3, q4⟩ := blk5 d0; obtain ⟨q5, q6, _, _⟩ := blk2 d1; obtain ⟨q7, q8, _, _⟩ := blk2 d2)
          | (go_at_call 7; (with_reducible refine (hmay _ hB2).mono ?_); clear hmay; rintro e w3 ⟨rfl, hb3⟩; have hB3 := below_call hB2 hB2.size hb3; have f0 := bl_own hb3 d0; have f1 := bl_own hb3 d1; have f2 := bl_own hb3 d2; obtain ⟨r0, r1, r2, r3, r4⟩ := blk5 f0; obtain ⟨r5, r6, _, _⟩ := blk2 f1; obtain ⟨r7, r8, _, _⟩ := blk2 f2))
        go_ret
        exact ⟨rfl, hB3⟩
    · have e1 : 40 < (bd.length : Int) := by omega
      unfold cfgv at *
      unfold idv at *
      have hW : ∃ W, ((w.alloc (.cells #[.slice A c.W.length k, .int .u64 c.seed, .int .i64 c.epoch, .int .i64 c.num, .int .i64 c.den] 25)).alloc (.cells #[.slice A2 l.length k2, .slice A3 vs.length k3] 40)).alloc (.cells #[.int .u64 x.hi, .int .u64 x.lo] 28) = W := ⟨_, rfl⟩
      obtain ⟨W, hW⟩ := hW
      have hB : Below w.heap.size w W := by subst hW; exact (((Below.refl _ w).alloc (Nat.le_refl _) _).alloc (by simp <;> omega) _).alloc (by simp <;> omega) _
      have b0 : W.heap[w.heap.size]? = some (.cells #[.slice A c.W.length k, .int .u64 c.seed, .int .i64 c.epoch, .int .i64 c.num, .int .i64 c.den] 25 (0, 0)) := by subst hW; exact ha_lt (ha_lt (ha_at rfl))
      have b1 : W.heap[w.heap.size + 1]? = some (.cells #[.slice A2 l.length k2, .slice A3 vs.length k3] 40 (0, 0)) := by subst hW; exact ha_lt (ha_at (by simp))
      have b2 : W.heap[w.heap.size + 1 + 1]? = some (.cells #[.int .u64 x.hi, .int .u64 x.lo] 28 (0, 0)) := by subst hW; exact ha_at (by simp)
      go_enter Tryz.func4, Tryz.ntmps4
      go_wp2_with (first
        | (go_at_call 5; (with_reducible refine (haw _).mono ?_); clear haw; rintro e w1 ⟨rfl, hb1⟩; have hB1 := below_call hB hB.size hb1; have a0 := bl_own hb1 b0; have a1 := bl_own hb1 b1; have a2 := bl_own hb1 b2; obtain ⟨p0, p1, p2, p3, p4⟩ := blk5 a0; obtain ⟨p5, p6, _, _⟩ := blk2 a1; obtain ⟨p7, p8, _, _⟩ := blk2 a2)
        | (go_at_call 6; (with_reducible refine (hfew _).mono ?_); clear hfew; rintro e w2 ⟨rfl, hb2⟩; have hB2 := below_call hB1 hB1.size hb2; have d0 := bl_own hb2 a0; have d1 := bl_own hb2 a1; have d2 := bl_own hb2 a2; obtain ⟨q0, q1, q2, q3, q4⟩ := blk5 d0; obtain ⟨q5, q6, _, _⟩ := blk2 d1; obtain ⟨q7, q8, _, _⟩ := blk2 d2))
      go_ret
      exact ⟨rfl, hB2⟩
  · rw [decide_eq_false hsm] at hfew
    clear hsm
    unfold cfgv at *
    unfold idv at *
    have hW : ∃ W, ((w.alloc (.cells #[.slice A c.W.length k, .int .u64 c.seed, .int .i64 c.epoch, .int .i64 c.num, .int .i64 c.den] 25)).alloc (.cells #[.slice A2 l.length k2, .slice A3 vs.length k3] 40)).alloc (.cells #[.int .u64 x.hi, .int .u64 x.lo] 28) = W := ⟨_, rfl⟩
    obtain ⟨W, hW⟩ := hW
    have hB : Below w.heap.size w W := by subst hW; exact (((Below.refl _ w).alloc (Nat.le_refl _) _).alloc (by simp <;> omega) _).alloc (by simp <;> omega) _
    have b0 : W.heap[w.heap.size]? = some (.cells #[.slice A c.W.length k, .int .u64 c.seed, .int .i64 c.epoch, .int .i64 c.num, .int .i64 c.den] 25 (0, 0)) := by subst hW; exact ha_lt (ha_lt (ha_at rfl))
    have b1 : W.heap[w.heap.size + 1]? = some (.cells #[.slice A2 l.length k2, .slice A3 vs.length k3] 40 (0, 0)) := by subst hW; exact ha_lt (ha_at (by simp))
    have b2 : W.heap[w.heap.size + 1 + 1]? = some (.cells #[.int .u64 x.hi, .int .u64 x.lo] 28 (0, 0)) := by subst hW; exact ha_at (by simp)
    go_enter Tryz.func4, Tryz.ntmps4
    go_wp2_with (first
      | (go_at_call 5; (with_reducible refine (haw _).mono ?_); clear haw; rintro e w1 ⟨rfl, hb1⟩; have hB1 := below_call hB hB.size hb1; have a0 := bl_own hb1 b0; have a1 := bl_own hb1 b1; have a2 := bl_own hb1 b2; obtain ⟨p0, p1, p2, p3, p4⟩ := blk5 a0; obtain ⟨p5, p6, _, _⟩ := blk2 a1; obtain ⟨p7, p8, _, _⟩ := blk2 a2)
      | (go_at_call 6; (with_reducible refine (hfew _).mono ?_); clear hfew; rintro e w2 ⟨rfl, hb2⟩; have hB2 := below_call hB1 hB1.size hb2; have d0 := bl_own hb2 a0; have d1 := bl_own hb2 a1; have d2 := bl_own hb2 a2; obtain ⟨q0, q1, q2, q3, q4⟩ := blk5 d0; obtain ⟨q5, q6, _, _⟩ := blk2 d1; obtain ⟨q7, q8, _, _⟩ := blk2 d2))
    go_ret
    exact ⟨rfl, hB2⟩
theorem good15_walk (A : Option Addr) (c : Cfg) (k : Nat) (A2 : Option Addr) (l : List Blk) (k2 : Nat) (A3 : Option Addr) (vs : List Vote) (k3 : Nat) (s : Int) (x : ID) (A9 : Option Addr) (bd : List Int) (k9 : Nat) (w : World) (_ : c.W.length ≤ k) (_ : k ≤ maxLen) (hr : Rd 1 encI w A c.W) (_ : c.Ok) (_ : l.length ≤ k2) (_ : k2 ≤ maxLen) (hr2 : Rd 5 encBlk w A2 l) (hok : ∀ b ∈ l, b.Ok) (_ : A2 = none → k2 = 0) (hlk : vs.length ≤ k3) (hkm : k3 ≤ maxLen) (hr3 : Rd 4 encVote w A3 vs) (_ : ∀ b ∈ vs, b.Ok) (hN : A3 = none → k3 = 0) (_ : I64 s) (_ : x.Ok) (_ : bd.length ≤ k9) (_ : k9 ≤ maxLen) (hr9 : Rd 1 encI w A9 bd) (_ : ∀ b ∈ bd, I64 b) (_ : A9 = none → k9 = 0) :
    Calls Tryz.prog 4 #[cfgv A k c, .agg #[.slice A2 l.length k2, .slice A3 vs.length k3], .int .i64 s, idv x, .slice A9 bd.length k9] w fun e w' => e = .returned (.bool true) ∧ Below w.heap.size w w' :=
  good15_any c l vs s x bd A A2 A3 A9 k k2 k3 k9 w hr hr2 hr3 hr9
end Go.Proofs.YtdocgemfedohdaaGreat
